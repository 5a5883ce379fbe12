/- The reference's product. Rows of quantities; each over quantities and over terms; copies of laws. Printed by gen_y1.py. The arguments of ModelLaws, opened. -/
import Derived.Test.YtaiikekgckjdeaaGreatK18
namespace Go.Proofs.YtaiikekgckjdeaaGreat
open Go.RowKit Go.Maps
open Calmly (Kept)
def fracF (x y : Int) : Int × Int := (x.tdiv (Int.gcd x y), y.tdiv (Int.gcd x y))
theorem gcd_split (x y : Int) (hy : 0 < y) : ∃ g : Int, 0 < g ∧ x = (fracF x y).1 * g ∧ y = (fracF x y).2 * g ∧ 0 < (fracF x y).2 ∧ Int.gcd (fracF x y).1 (fracF x y).2 = 1 := by
  have hg0 : 0 < Int.gcd x y := Int.gcd_pos_of_ne_zero_right x (by omega)
  have h1 : (Int.gcd x y : Int) ∣ x := Int.gcd_dvd_left x y
  have h2 : (Int.gcd x y : Int) ∣ y := Int.gcd_dvd_right x y
  have e1 : x = (fracF x y).1 * (Int.gcd x y : Int) := (Int.tdiv_mul_cancel h1).symm
  have e2 : y = (fracF x y).2 * (Int.gcd x y : Int) := (Int.tdiv_mul_cancel h2).symm
  refine ⟨(Int.gcd x y : Int), by omega, e1, e2, ?_, ?_⟩
  · rcases Int.lt_or_le 0 (fracF x y).2 with h | h
    · exact h
    · exfalso
      have := Int.mul_le_mul_of_nonneg_right h (show (0 : Int) ≤ (Int.gcd x y : Int) by omega)
      omega
  · have := Int.gcd_mul_right (fracF x y).1 (Int.gcd x y : Int) (fracF x y).2
    rw [← e1, ← e2] at this
    simp at this
    have h3 : Int.gcd (fracF x y).1 (fracF x y).2 * Int.gcd x y = 1 * Int.gcd x y := by omega
    exact Nat.eq_of_mul_eq_mul_right hg0 h3
/-- A fraction in lowest terms is its number's. -/
theorem rat_parts {n d : Int} (hd : 0 < d) (hg : Int.gcd n d = 1) {v : Rat} (hv : v = (n : Rat) / (d : Rat)) : v.num = n ∧ (v.den : Int) = d := by
  obtain ⟨D, rfl⟩ : ∃ D : Nat, d = (D : Int) := ⟨d.toNat, by omega⟩
  have h1 := rat_lowest (n := n) (d := D) (by omega) (by simpa [Int.gcd] using hg) hv
  exact ⟨h1.1, by rw [h1.2]⟩
/-- The product of fractions in lowest terms, cancelled crosswise. -/
theorem prod_parts {an ad bn bd : Int} (ha : 0 < ad) (hga : Int.gcd an ad = 1) (hb : 0 < bd) (hgb : Int.gcd bn bd = 1) {P : Rat} (hP : P = (an : Rat) / (ad : Rat) * ((bn : Rat) / (bd : Rat))) :
    P.num = (fracF an bd).1 * (fracF bn ad).1 ∧ (P.den : Int) = (fracF an bd).2 * (fracF bn ad).2 := by
  obtain ⟨g, hg0, e1, e2, h2, h3⟩ := gcd_split an bd hb
  obtain ⟨k, hk0, f1, f2, k2, k3⟩ := gcd_split bn ad ha
  generalize (fracF an bd).1 = x1 at *
  generalize (fracF an bd).2 = x2 at *
  generalize (fracF bn ad).1 = y1 at *
  generalize (fracF bn ad).2 = y2 at *
  have q1 : Int.gcd x1 y2 = 1 := by
    have h5 : Int.gcd x1 y2 ∣ Int.gcd an ad := Int.dvd_gcd (by
      rw [e1]
      exact Int.dvd_trans (Int.gcd_dvd_left x1 y2) (Int.dvd_mul_right _ _)) (by
      rw [f2]
      exact Int.dvd_trans (Int.gcd_dvd_right x1 y2) (Int.dvd_mul_right _ _))
    rw [hga] at h5
    exact Nat.dvd_one.1 h5
  have q2 : Int.gcd y1 x2 = 1 := by
    have h5 : Int.gcd y1 x2 ∣ Int.gcd bn bd := Int.dvd_gcd (by
      rw [f1]
      exact Int.dvd_trans (Int.gcd_dvd_left y1 x2) (Int.dvd_mul_right _ _)) (by
      rw [e2]
      exact Int.dvd_trans (Int.gcd_dvd_right y1 x2) (Int.dvd_mul_right _ _))
    rw [hgb] at h5
    exact Nat.dvd_one.1 h5
  have hg : Int.gcd (x1 * y1) (x2 * y2) = 1 := by
    unfold Int.gcd at *
    rw [Int.natAbs_mul, Int.natAbs_mul]
    exact Nat.Coprime.mul_left (Nat.Coprime.mul_right h3 q1) (Nat.Coprime.mul_right q2 k3)
  refine rat_parts (Int.mul_pos h2 k2) hg ?_
  rw [hP, e1, e2, f1, f2]
  have z1 : (x2 : Rat) ≠ 0 := by intro e; have : x2 = 0 := by exact_mod_cast e
                                 omega
  have z2 : (y2 : Rat) ≠ 0 := by intro e; have : y2 = 0 := by exact_mod_cast e
                                 omega
  have z3 : (g : Rat) ≠ 0 := by intro e; have : g = 0 := by exact_mod_cast e
                                omega
  have z4 : (k : Rat) ≠ 0 := by intro e; have : k = 0 := by exact_mod_cast e
                                omega
  simp only [Rat.intCast_mul]
  grind
set_option maxRecDepth 100000 in
set_option maxHeartbeats 4000000 in
theorem Lowest_c5 (x y : Int) (w : World) (hx1 : -9223372036854775807 ≤ x) (hx2 : x ≤ 9223372036854775807) (hy1 : 0 < y) (hy2 : y ≤ 9223372036854775807) :
    Calls Tryz.prog 56 #[.int .i64 x, .int .i64 y] w fun e w' => e = .returned (.agg #[.int .i64 (fracF x y).1, .int .i64 (fracF x y).2]) ∧ Below w.heap.size w w' := by
  have hb : ∀ o, Below w.heap.size w (w.alloc o) := fun o => (Below.refl _ _).alloc (Nat.le_refl _) _
  have hnew := alloc_new w (.cells #[.int .i64 0, .int .i64 0] 27)
  go_enter Tryz.func56, Tryz.ntmps56
  go_wp2_with fail
  refine (gcd_any x y _ (by omega) (by omega) (by omega) (by omega)).mono ?_
  rintro e w1 ⟨rfl, k, rfl⟩
  have hg0 : (0 : Int) < Int.gcd x y := by have := Int.gcd_pos_of_ne_zero_right (a := x) (b := y) (by omega); omega
  have hg1 : (Int.gcd x y : Int) ≤ 9223372036854775807 := by have := Int.gcd_le_right x hy1; omega
  obtain ⟨g, hgg⟩ : ∃ g : Int, (Int.gcd x y : Int) = g := ⟨_, rfl⟩
  have hf : fracF x y = (x.tdiv g, y.tdiv g) := by unfold fracF; rw [hgg]
  have HF := Lib.hid hf
  rw [hgg] at hg0 hg1 ⊢
  clear hf hgg
  have hg2 : (g == 0) = false := by simp; omega
  have b1 : -9223372036854775807 ≤ x.tdiv g ∧ x.tdiv g ≤ 9223372036854775807 := by
    have := Int.natAbs_tdiv_le_natAbs x g
    omega
  have b2 : -9223372036854775807 ≤ y.tdiv g ∧ y.tdiv g ≤ 9223372036854775807 := by
    have := Int.natAbs_tdiv_le_natAbs y g
    omega
  obtain ⟨b11, b12⟩ := b1
  obtain ⟨b21, b22⟩ := b2
  have hy0 : 0 ≤ y := by omega
  go_wp2_with fail
  refine Calmly.wp_region_mix 6 (.fl 0 <| .fl 1 <| .fl 2 <| .fl 3 <| .fl 4 <| .fl 5 <| .tail [6, 7]) (by kernel_rfl) (by kernel_rfl) ?_
  go_wp2_with (first | ((with_reducible refine Calmly.is_fl ?_); refine Calmly.mix_fl rfl ?_ (fun _ _ => ?_); (first | exact .move _ | exact .load _ _ | exact .fieldAddr _ _ _ (by kernel_rfl) | exact .assign _ | exact .binOp _ _ _ _ _ rfl | exact .indexAddr _ _ _ | exact .len _ _ (by kernel_rfl) | exact .field _ _ _ | exact .extract _ _ | exact .pick _ _ _ | exact .build _ _ | exact .slice _ _ _ _ _ | exact .unOp _ _ _ rfl | exact .index _ _ _ | exact .max _ _ _ rfl rfl | exact .min _ _ _ rfl rfl | exact .nilCheck _ _ rfl)) | ((with_reducible refine Calmly.is_gl ?_); refine Calmly.mix_gl rfl rfl rfl ?_; first | ((first | with_reducible refine Calmly.gl_tt ?_ (fun _ _ => ?_) | with_reducible refine Calmly.gl_ff ?_ (fun _ _ => ?_)); (first | exact .move _ | exact .load _ _ | exact .fieldAddr _ _ _ (by kernel_rfl) | exact .assign _ | exact .binOp _ _ _ _ _ rfl | exact .indexAddr _ _ _ | exact .len _ _ (by kernel_rfl) | exact .field _ _ _ | exact .extract _ _ | exact .pick _ _ _ | exact .build _ _ | exact .slice _ _ _ _ _ | exact .unOp _ _ _ rfl | exact .index _ _ _ | exact .max _ _ _ rfl rfl | exact .min _ _ _ rfl rfl | exact .nilCheck _ _ rfl)) | with_reducible refine Calmly.gl_tf (fun _ _ => ?_) | with_reducible refine Calmly.gl_ft (fun _ _ => ?_)) | ((with_reducible refine Calmly.is_eff ?_); refine Calmly.mix_eff rfl (fun _ _ => ?_)) | ((with_reducible refine Calmly.is_gf ?_); refine Calmly.mix_gf rfl rfl rfl ?_; first | with_reducible refine Calmly.gf_tt (fun _ _ => ?_) | with_reducible refine Calmly.gf_ff (fun _ _ => ?_) | with_reducible refine Calmly.gf_tf (kept_of hk) (fun _ _ => ?_) | with_reducible refine Calmly.gf_ft (kept_of hk) (fun _ _ => ?_)) | ((with_reducible refine Calmly.is_tail ?_); first | refine Calmly.mix_tail_nil ?_ | refine Calmly.mix_tail rfl (fun _ _ => ?_)) | ((with_reducible refine Calmly.is_kept ?_); refine ⟨kept_of hk, ?_⟩) | (with_reducible refine Calmly.mix_alt ?_ ?_))
  refine bodyPost_ret (v := .agg #[.int .i64 (x.tdiv g), .int .i64 (y.tdiv g)]) (by simp [results, Tryz.results56, go_sem]) rfl ⟨by rw [HF.out], ?_⟩
  exact ((below_drewN ((Below.refl _ _).alloc (Nat.le_refl _) _) k).drew.setCell (by simp) _).setCell (by simp) _
theorem two_set {w V W : World} {p q r : Nat} {u0 u1 v0 v1 : Value} {t t' : TypeId} {o : Obj} (zp : W.heap[p]? = some (.cells #[u0, u1] t)) (zq : W.heap[q]? = some (.cells #[v0, v1] t')) (hpq : p ≠ q) (hk : Below V.heap.size V W) (hp : V.heap.size ≤ p) (hq : V.heap.size ≤ q) (BW : Below w.heap.size w V) (yr : V.heap[r]? = some o) (a b c d : Value) :
    Below w.heap.size w ((((W.setCell ⟨p, 0, none⟩ a).setCell ⟨p, 1, none⟩ b).setCell ⟨q, 0, none⟩ c).setCell ⟨q, 1, none⟩ d) ∧ ((((W.setCell ⟨p, 0, none⟩ a).setCell ⟨p, 1, none⟩ b).setCell ⟨q, 0, none⟩ c).setCell ⟨q, 1, none⟩ d).heap[r]? = some o ∧
    ((((W.setCell ⟨p, 0, none⟩ a).setCell ⟨p, 1, none⟩ b).setCell ⟨q, 0, none⟩ c).setCell ⟨q, 1, none⟩ d).heap[p]? = some (.cells #[a, b] t) ∧ ((((W.setCell ⟨p, 0, none⟩ a).setCell ⟨p, 1, none⟩ b).setCell ⟨q, 0, none⟩ c).setCell ⟨q, 1, none⟩ d).heap[q]? = some (.cells #[c, d] t') := by
  have hw := BW.size
  have hr := blk_lt yr
  have h1 : ∀ k, k ≠ p → k ≠ q → ((((W.setCell ⟨p, 0, none⟩ a).setCell ⟨p, 1, none⟩ b).setCell ⟨q, 0, none⟩ c).setCell ⟨q, 1, none⟩ d).heap[k]? = W.heap[k]? := fun k k1 k2 => by
    rw [Below.heap_setCell _ _ _ _ k2, Below.heap_setCell _ _ _ _ k2, Below.heap_setCell _ _ _ _ k1, Below.heap_setCell _ _ _ _ k1]
  refine ⟨((((BW.trans (hk.mono hw)).setCell (by show w.heap.size ≤ p; omega) _).setCell (by show w.heap.size ≤ p; omega) _).setCell (by show w.heap.size ≤ q; omega) _).setCell (by show w.heap.size ≤ q; omega) _, (h1 r (by omega) (by omega)).trans (blk_keep yr hk), ?_, ?_⟩
  · rw [Below.heap_setCell _ _ _ _ hpq, Below.heap_setCell _ _ _ _ hpq]
    simpa using setBlk (setBlk zp 0 a) 1 b
  · have e : ((W.setCell ⟨p, 0, none⟩ a).setCell ⟨p, 1, none⟩ b).heap[q]? = some (.cells #[v0, v1] t') := by
      rw [Below.heap_setCell _ _ _ _ hpq.symm, Below.heap_setCell _ _ _ _ hpq.symm]
      exact zq
    simpa using setBlk (setBlk e 0 c) 1 d
end Go.Proofs.YtaiikekgckjdeaaGreat

namespace Go.Proofs.YtaiikekgckjdeaaGreat
open Go.RowKit
open Calmly (Kept)

/-! ### Quantities -/
abbrev QuR := Int × Int × Int
def encQuR (x : QuR) : List Value := [.int .i64 x.1, .int .i64 x.2.1, .int .i64 x.2.2]
def qur0 : QuR := (0, 0, 0)
theorem encQuR_len (x : QuR) : (encQuR x).length = 3 := rfl
def SQuR (w : World) (a : Option Addr) (n c : Nat) (l : List QuR) : Prop := Sl w 3 a n c (l.flatMap encQuR)
theorem SQuR.keep {w w' : World} {a : Option Addr} {n c : Nat} {l : List QuR} (h : SQuR w a n c l) (hb : Below w.heap.size w w') : SQuR w' a n c l := Sl.keep h hb
theorem SQuR.len {w : World} {a : Option Addr} {n c : Nat} {l : List QuR} (h : SQuR w a n c l) : n = l.length := Sl.recsLen encQuR_len (by decide) h
theorem SQuR.cap {w : World} {a : Option Addr} {n c : Nat} {l : List QuR} (h : SQuR w a n c l) : n ≤ c := h.2.1
theorem SQuR.max {w : World} {a : Option Addr} {n c : Nat} {l : List QuR} (h : SQuR w a n c l) : c ≤ 9223372036854775807 := h.2.2.1
theorem SQuR.nil (w : World) : SQuR w none 0 0 [] := Sl.nil w 3
theorem SQuR.at_ {w : World} {a : Option Addr} {n c : Nat} {l : List QuR} (h : SQuR w a n c l) (hn : 0 < n) :
    ∃ b off, a = some ⟨b, off, none⟩ ∧ ∀ i, i < n → w.cell? ⟨b, off + i * 3, none⟩ = some (.int .i64 (l[i]?.getD qur0).1) ∧ w.cell? ⟨b, off + i * 3 + 1, none⟩ = some (.int .i64 (l[i]?.getD qur0).2.1) ∧ w.cell? ⟨b, off + i * 3 + 2, none⟩ = some (.int .i64 (l[i]?.getD qur0).2.2) := by
  obtain ⟨b, off, ha, hc⟩ := Sl.recs encQuR_len (by decide) qur0 h hn
  exact ⟨b, off, ha, fun i hi => ⟨hc i hi 0 (by omega), hc i hi 1 (by omega), hc i hi 2 (by omega)⟩⟩
theorem SQuR.blk {w : World} {a : Option Addr} {n c : Nat} {l : List QuR} (h : SQuR w a n c l) : ∀ b o, 0 < n → a = some ⟨b, o, none⟩ → b < w.heap.size := by
  intro b o hn ha
  obtain ⟨b', o', he, hc⟩ := h.at_ hn
  rw [ha] at he
  cases he
  exact cell_lt (hc 0 hn).1
theorem Tryz.info_qur : (Tryz.prog.info? 53).map (fun i => (i.zero, i.size, i.bytes)) = some (some (.agg #[.int .i64 0, .int .i64 0, .int .i64 0]), 3, 24) := by kernel_rfl
def OwQuR (w : World) (B : Nat) (a : Option Addr) (n c : Nat) (l : List QuR) : Prop := w.ownsRow B 53 3 (.slice a n c) n (l.flatMap encQuR)
theorem OwQuR.nil (w : World) (B : Nat) : OwQuR w B none 0 0 [] := World.ownsRow_nil w B _ 3
theorem OwQuR.sr {w : World} {B : Nat} {a : Option Addr} {n c : Nat} {l : List QuR} (h : OwQuR w B a n c l) : SQuR w a n c l := by
  obtain ⟨a', c', he, hs⟩ := Sl.of_owns h
  cases he
  exact hs
theorem OwQuR.keep {w w' : World} {B : Nat} {a : Option Addr} {n c : Nat} {l : List QuR} (h : OwQuR w B a n c l) (hb : Below w.heap.size w w') : OwQuR w' B a n c l := owns_keep h hb
theorem OwQuR.lt {w : World} {B : Nat} {a : Option Addr} {n c : Nat} {l : List QuR} (h : OwQuR w B a n c l) : ∀ g o, a = some ⟨g, o, none⟩ → B ≤ g ∧ g < w.heap.size := by
  rintro g o rfl
  exact World.ownsRow.lt h g rfl
theorem oneCell_QuR (x : QuR) : ∀ u ∈ encQuR x, u.oneCell' = true := by
  intro u hu
  simp only [encQuR, List.mem_cons, List.not_mem_nil, or_false] at hu
  rcases hu with rfl | rfl | rfl <;> rfl

theorem oneCell_Qs (l : List QuR) : ∀ u ∈ l.flatMap encQuR, u.oneCell' = true := by
  intro u hu
  obtain ⟨p, _, hp⟩ := List.mem_flatMap.1 hu
  simp only [encQuR, List.mem_cons, List.not_mem_nil, or_false] at hp
  rcases hp with rfl | rfl | rfl <;> rfl
/-- 'append([][3]int{}, l...)'. -/
theorem copyQ {ops : Array Oper} {rest : List Oper} {o : Oper} {a : Act} {Q : Exit → Act → World → Prop} {Wx : World} (w0 : World) {lv : Option Addr} {m lc : Nat} {l : List QuR} (hW : Wx = w0.alloc (.cells #[] 53)) (hgd : o.guard = none) (s x : Operand)
    (ho : o.op = .call { callee := .builtin .append, args := #[s, x], argTypes := #[22, 22] })
    (hl : SQuR w0 lv m lc l) (hs : a.eval s = .slice (some ⟨w0.heap.size, 0, none⟩) 0 0) (hx : a.eval x = .slice lv m lc) (hb1 : m ≤ 1099511627776)
    (h : ∀ a' c' w', OwQuR w' w0.heap.size a' m c' l → Below w0.heap.size w0 w' → wpList Tryz.prog ops Q rest (a.put o.dst (.slice a' m c')) w') :
    wpList Tryz.prog ops Q (o :: rest) a Wx := by
  subst hW
  have hA : Below w0.heap.size w0 (w0.alloc (.cells #[] 53)) := (Below.refl _ _).alloc (Nat.le_refl _) _
  obtain ⟨i0, hi, hz0, hz1, hz2⟩ := info_parts Tryz.info_qur
  refine appS hgd s x _ ho w0.heap.size _ i0 _ 3 24 Tryz.underlying22 hi hz0 hz1 hz2 rfl (by decide) _ 0 0 [] ⟨by simp, .inr ⟨w0.heap.size, 0, #[], rfl, Nat.le_refl _, alloc_new _ _, by simp, by simp, by simp, by simp⟩⟩ lv m lc _ (Sl.keep hl hA) (oneCell_Qs l) hs hx (by omega) (by omega) (by simp) ?_
  intro a' c' w1 h1 h2
  rw [Nat.zero_add] at h1 ⊢
  exact h a' c' w1 (by unfold OwQuR; simpa using h1) (hA.trans h2)
theorem CopyQuantities_any (a : Option Addr) (n c : Nat) (l : List QuR) (w : World) (h1 : SQuR w a n c l) (hn : n ≤ 1099511627776) :
    Calls Tryz.prog 9 #[.slice a n c] w fun e w' => ∃ a' c', e = .returned (.slice a' n c') ∧ OwQuR w' w.heap.size a' n c' l ∧ Below w.heap.size w w' := by
  go_enter Tryz.func9, Tryz.ntmps9
  go_wp2_with (refine copyQ w rfl rfl _ _ rfl h1 rfl rfl hn (fun a' c' w' ho hb => ?_))
  go_ret
  exact ⟨_, _, rfl, ho, hb⟩

set_option maxRecDepth 100000 in
set_option maxHeartbeats 1000000 in
theorem eachLawQ_any (a : Option Addr) (n c : Nat) (l : List QuR) (w0 w : World) (err : Nat → Int) (Inv : Nat → World → Prop) (h1 : SQuR w0 a n c l) (h0 : Below w0.heap.size w0 w) (hI : Inv 0 w)
    (hst : ∀ i W W', Inv i W → Below W.heap.size W W' → Inv i W')
    (hcl : ∀ (i : Nat) (W : World), i < n → Inv i W → Below w0.heap.size w0 W → Calls Tryz.prog 29 #[.int .i64 (i : Int), .agg #[.int .i64 (l[i]?.getD qur0).1, .int .i64 (l[i]?.getD qur0).2.1, .int .i64 (l[i]?.getD qur0).2.2]] W fun e w' => e = .returned (.int .i64 (err i)) ∧ Inv (i + 1) w' ∧ Below w0.heap.size W w') :
    Calls Tryz.prog 28 #[.slice a n c, .func (.func 29) #[] #[]] w fun e w' => e = .returned (.tuple #[.int .i64 (eaF err 0 n).1, .int .i64 (eaF err 0 n).2]) ∧ Below w0.heap.size w w' := by
  have l1 : n ≤ l.length ∧ l.length ≤ n := by have := h1.len; omega
  have m1 := h1.max
  have c1 := h1.cap
  obtain ⟨I, E, hR⟩ : ∃ I E, eaF err 0 n = (I, E) := ⟨_, _, rfl⟩
  rw [hR]
  dsimp only
  have HR := Lib.hid hR
  clear hR
  have hw := h0.size
  go_enter Tryz.func28, Tryz.ntmps28
  go_wp2_with fail
  go_loopw [11] (fun i wr => ∃ k : Nat, k ≤ n ∧ i = .int .i64 k ∧ eaF err k (n - k) = (I, E) ∧ Inv k wr ∧ Below w0.heap.size w wr) (fun i _ => n - (intOf i).toNat)
  case atStart => exact ⟨0, by omega, rfl, HR.out, hI, Below.refl _ _⟩
  case round =>
    obtain ⟨k, hk, rfl, ht, hi, hbr⟩ := hrel
    have HT := Lib.hid ht
    clear ht
    have hb0 := h0.trans hbr
    have hrs := hb0.size
    by_cases hlt : k < n
    · obtain ⟨cb, co, rfl, hcc⟩ := h1.at_ (by omega)
      obtain ⟨y0, y1, y2⟩ := hcc k hlt
      replace y0 := cell_keep y0 hb0
      replace y1 := cell_keep y1 hb0
      replace y2 := cell_keep y2 hb0
      clear hcc
      have hc := hcl k
      obtain ⟨rr, hrr⟩ : ∃ rr, l[k]?.getD qur0 = rr := ⟨_, rfl⟩
      obtain ⟨x0, x1, x2⟩ := rr
      rw [hrr] at y0 y1 y2 hc
      clear hrr
      try dsimp only at y0 y1 y2 hc
      have HC := Lib.hid hc
      clear hc
      have hi1 : (k : Int) < (n : Int) := by omega
      have hi0 : (0 : Int) ≤ (k : Int) := by omega
      obtain ⟨R, hE⟩ : ∃ R, err k = R := ⟨_, rfl⟩
      have HE := Lib.hid hE
      clear hE
      have hi9 := Lib.hid hi
      clear hi
      go_wp2_with fail
      refine (HC.out _ hlt (hst k _ _ hi9.out ((Below.refl _ _).alloc (Nat.le_refl _) (.cells #[.int .i64 x0, .int .i64 x1, .int .i64 x2] 53))) (hb0.alloc hrs (.cells #[.int .i64 x0, .int .i64 x1, .int .i64 x2] 53))).mono ?_
      rintro e w1 ⟨rfl, hi2, hs⟩
      rw [HE.out]
      have hbn := (hbr.alloc hrs (.cells #[.int .i64 x0, .int .i64 x1, .int .i64 x2] 53)).trans hs
      have hI2 := Lib.hid hi2
      clear hi2
      by_cases hz : R = 0
      · subst hz
        have hE0 : ((0 : Int) != 0) = false := rfl
        go_wp2_with fail
        go_roundw
        case rel => exact ⟨k + 1, by omega, by go_num, (eaF_ok hlt HE.out).symm.trans HT.out, hI2.out, hbn⟩
        case measure => simp [intOf]; omega
      · have b1 : (R != 0) = true := by simpa using hz
        have hRE : (I, E) = ((k : Int), R) := by rw [← HT.out, eaF_bad hlt (by rw [HE.out]; exact hz), HE.out]
        injection hRE with e1 e2
        have E1 := Lib.hid e1
        have E2 := Lib.hid e2
        clear e1 e2 hz
        go_wp2_with fail
        refine bodyPost_ret (v := .tuple #[.int .i64 (k : Int), .int .i64 R]) (by simp [results, Tryz.results28]) rfl ⟨by rw [E1.out, E2.out], hbn⟩
    · have hle : (n : Int) ≤ (k : Int) := by omega
      have hR0 : (I, E) = (0, 0) := by rw [← HT.out, eaF_end (by omega)]
      injection hR0 with e1 e2
      subst e1 e2
      go_wp2_with fail
      refine bodyPost_ret (v := .tuple #[.int .i64 0, .int .i64 0]) (by simp [results, Tryz.results28]) rfl ⟨rfl, hbr⟩

set_option maxRecDepth 100000 in
set_option maxHeartbeats 1000000 in
theorem eachRankQ_any (a : Option Addr) (n c : Nat) (l : List QuR) (w0 w : World) (err : Nat → Int) (Inv : Nat → World → Prop) (h1 : SQuR w0 a n c l) (h0 : Below w0.heap.size w0 w) (hI : Inv 0 w)
    (hst : ∀ i W W', Inv i W → Below W.heap.size W W' → Inv i W')
    (hcl : ∀ (i : Nat) (W : World), i < n → Inv i W → Below w0.heap.size w0 W → Calls Tryz.prog 41 #[.int .i64 (i : Int), .agg #[.int .i64 (l[i]?.getD qur0).1, .int .i64 (l[i]?.getD qur0).2.1, .int .i64 (l[i]?.getD qur0).2.2]] W fun e w' => e = .returned (.int .i64 (err i)) ∧ Inv (i + 1) w' ∧ Below w0.heap.size W w') :
    Calls Tryz.prog 28 #[.slice a n c, .func (.func 41) #[] #[]] w fun e w' => e = .returned (.tuple #[.int .i64 (eaF err 0 n).1, .int .i64 (eaF err 0 n).2]) ∧ Below w0.heap.size w w' := by
  have l1 : n ≤ l.length ∧ l.length ≤ n := by have := h1.len; omega
  have m1 := h1.max
  have c1 := h1.cap
  obtain ⟨I, E, hR⟩ : ∃ I E, eaF err 0 n = (I, E) := ⟨_, _, rfl⟩
  rw [hR]
  dsimp only
  have HR := Lib.hid hR
  clear hR
  have hw := h0.size
  go_enter Tryz.func28, Tryz.ntmps28
  go_wp2_with fail
  go_loopw [11] (fun i wr => ∃ k : Nat, k ≤ n ∧ i = .int .i64 k ∧ eaF err k (n - k) = (I, E) ∧ Inv k wr ∧ Below w0.heap.size w wr) (fun i _ => n - (intOf i).toNat)
  case atStart => exact ⟨0, by omega, rfl, HR.out, hI, Below.refl _ _⟩
  case round =>
    obtain ⟨k, hk, rfl, ht, hi, hbr⟩ := hrel
    have HT := Lib.hid ht
    clear ht
    have hb0 := h0.trans hbr
    have hrs := hb0.size
    by_cases hlt : k < n
    · obtain ⟨cb, co, rfl, hcc⟩ := h1.at_ (by omega)
      obtain ⟨y0, y1, y2⟩ := hcc k hlt
      replace y0 := cell_keep y0 hb0
      replace y1 := cell_keep y1 hb0
      replace y2 := cell_keep y2 hb0
      clear hcc
      have hc := hcl k
      obtain ⟨rr, hrr⟩ : ∃ rr, l[k]?.getD qur0 = rr := ⟨_, rfl⟩
      obtain ⟨x0, x1, x2⟩ := rr
      rw [hrr] at y0 y1 y2 hc
      clear hrr
      try dsimp only at y0 y1 y2 hc
      have HC := Lib.hid hc
      clear hc
      have hi1 : (k : Int) < (n : Int) := by omega
      have hi0 : (0 : Int) ≤ (k : Int) := by omega
      obtain ⟨R, hE⟩ : ∃ R, err k = R := ⟨_, rfl⟩
      have HE := Lib.hid hE
      clear hE
      have hi9 := Lib.hid hi
      clear hi
      go_wp2_with fail
      refine (HC.out _ hlt (hst k _ _ hi9.out ((Below.refl _ _).alloc (Nat.le_refl _) (.cells #[.int .i64 x0, .int .i64 x1, .int .i64 x2] 53))) (hb0.alloc hrs (.cells #[.int .i64 x0, .int .i64 x1, .int .i64 x2] 53))).mono ?_
      rintro e w1 ⟨rfl, hi2, hs⟩
      rw [HE.out]
      have hbn := (hbr.alloc hrs (.cells #[.int .i64 x0, .int .i64 x1, .int .i64 x2] 53)).trans hs
      have hI2 := Lib.hid hi2
      clear hi2
      by_cases hz : R = 0
      · subst hz
        have hE0 : ((0 : Int) != 0) = false := rfl
        go_wp2_with fail
        go_roundw
        case rel => exact ⟨k + 1, by omega, by go_num, (eaF_ok hlt HE.out).symm.trans HT.out, hI2.out, hbn⟩
        case measure => simp [intOf]; omega
      · have b1 : (R != 0) = true := by simpa using hz
        have hRE : (I, E) = ((k : Int), R) := by rw [← HT.out, eaF_bad hlt (by rw [HE.out]; exact hz), HE.out]
        injection hRE with e1 e2
        have E1 := Lib.hid e1
        have E2 := Lib.hid e2
        clear e1 e2 hz
        go_wp2_with fail
        refine bodyPost_ret (v := .tuple #[.int .i64 (k : Int), .int .i64 R]) (by simp [results, Tryz.results28]) rfl ⟨by rw [E1.out, E2.out], hbn⟩
    · have hle : (n : Int) ≤ (k : Int) := by omega
      have hR0 : (I, E) = (0, 0) := by rw [← HT.out, eaF_end (by omega)]
      injection hR0 with e1 e2
      subst e1 e2
      go_wp2_with fail
      refine bodyPost_ret (v := .tuple #[.int .i64 0, .int .i64 0]) (by simp [results, Tryz.results28]) rfl ⟨rfl, hbr⟩

set_option maxRecDepth 100000 in
set_option maxHeartbeats 1000000 in
theorem eachTerm_any (p1 : Nat) (a : Option Addr) (n c : Nat) (l : List LsR) (w0 w : World) (err : Nat → Int) (Inv : Nat → World → Prop) (h1 : SLsR w0 a n c l) (h0 : Below w0.heap.size w0 w) (hI : Inv 0 w)
    (_ : ∀ i W W', Inv i W → Below W.heap.size W W' → Inv i W')
    (hcl : ∀ (i : Nat) (W : World), i < n → Inv i W → Below w0.heap.size w0 W → Calls Tryz.prog 34 #[.int .i64 (i : Int), hv (l[i]?.getD lsr0), .pointer (some ⟨p1, 0, none⟩)] W fun e w' => e = .returned (.int .i64 (err i)) ∧ Inv (i + 1) w' ∧ Below w0.heap.size W w') :
    Calls Tryz.prog 33 #[.slice a n c, .func (.func 34) #[] #[.pointer (some ⟨p1, 0, none⟩)]] w fun e w' => e = .returned (.tuple #[.int .i64 (eaF err 0 n).1, .int .i64 (eaF err 0 n).2]) ∧ Below w0.heap.size w w' := by
  have l1 : n ≤ l.length ∧ l.length ≤ n := by have := h1.len; omega
  have m1 := h1.max
  have c1 := h1.cap
  obtain ⟨I, E, hR⟩ : ∃ I E, eaF err 0 n = (I, E) := ⟨_, _, rfl⟩
  rw [hR]
  dsimp only
  have HR := Lib.hid hR
  clear hR
  have hw := h0.size
  go_enter Tryz.func33, Tryz.ntmps33
  go_wp2_with fail
  go_loopw [11] (fun i wr => ∃ k : Nat, k ≤ n ∧ i = .int .i64 k ∧ eaF err k (n - k) = (I, E) ∧ Inv k wr ∧ Below w0.heap.size w wr) (fun i _ => n - (intOf i).toNat)
  case atStart => exact ⟨0, by omega, rfl, HR.out, hI, Below.refl _ _⟩
  case round =>
    obtain ⟨k, hk, rfl, ht, hi, hbr⟩ := hrel
    have HT := Lib.hid ht
    clear ht
    have hb0 := h0.trans hbr
    have hrs := hb0.size
    by_cases hlt : k < n
    · obtain ⟨cb, co, rfl, hcc⟩ := h1.at_ (by omega)
      have y0 := hcc k hlt
      rw [Nat.mul_one] at y0
      replace y0 := cell_keep y0 hb0
      clear hcc
      have hc := hcl k
      obtain ⟨rr, hrr⟩ : ∃ rr, l[k]?.getD lsr0 = rr := ⟨_, rfl⟩
      obtain ⟨x0, x1, x2⟩ := rr
      rw [hrr] at y0 hc
      clear hrr
      try dsimp only [hv] at y0 hc
      have HC := Lib.hid hc
      clear hc
      have hi1 : (k : Int) < (n : Int) := by omega
      have hi0 : (0 : Int) ≤ (k : Int) := by omega
      obtain ⟨R, hE⟩ : ∃ R, err k = R := ⟨_, rfl⟩
      have HE := Lib.hid hE
      clear hE
      have hi9 := Lib.hid hi
      clear hi
      go_wp2_with fail
      refine (HC.out _ hlt hi9.out hb0).mono ?_
      rintro e w1 ⟨rfl, hi2, hs⟩
      rw [HE.out]
      have hbn := hbr.trans hs
      have hI2 := Lib.hid hi2
      clear hi2
      by_cases hz : R = 0
      · subst hz
        have hE0 : ((0 : Int) != 0) = false := rfl
        go_wp2_with fail
        go_roundw
        case rel => exact ⟨k + 1, by omega, by go_num, (eaF_ok hlt HE.out).symm.trans HT.out, hI2.out, hbn⟩
        case measure => simp [intOf]; omega
      · have b1 : (R != 0) = true := by simpa using hz
        have hRE : (I, E) = ((k : Int), R) := by rw [← HT.out, eaF_bad hlt (by rw [HE.out]; exact hz), HE.out]
        injection hRE with e1 e2
        have E1 := Lib.hid e1
        have E2 := Lib.hid e2
        clear e1 e2 hz
        go_wp2_with fail
        refine bodyPost_ret (v := .tuple #[.int .i64 (k : Int), .int .i64 R]) (by simp [results, Tryz.results33]) rfl ⟨by rw [E1.out, E2.out], hbn⟩
    · have hle : (n : Int) ≤ (k : Int) := by omega
      have hR0 : (I, E) = (0, 0) := by rw [← HT.out, eaF_end (by omega)]
      injection hR0 with e1 e2
      subst e1 e2
      go_wp2_with fail
      refine bodyPost_ret (v := .tuple #[.int .i64 0, .int .i64 0]) (by simp [results, Tryz.results33]) rfl ⟨rfl, hbr⟩

set_option maxRecDepth 100000 in
set_option maxHeartbeats 1000000 in
theorem eachClash_any (p1 p2 : Nat) (a : Option Addr) (n c : Nat) (l : List LsR) (w0 w : World) (err : Nat → Int) (Inv : Nat → World → Prop) (h1 : SLsR w0 a n c l) (h0 : Below w0.heap.size w0 w) (hI : Inv 0 w)
    (_ : ∀ i W W', Inv i W → Below W.heap.size W W' → Inv i W')
    (hcl : ∀ (i : Nat) (W : World), i < n → Inv i W → Below w0.heap.size w0 W → Calls Tryz.prog 39 #[.int .i64 (i : Int), hv (l[i]?.getD lsr0), .pointer (some ⟨p1, 0, none⟩), .pointer (some ⟨p2, 0, none⟩)] W fun e w' => e = .returned (.int .i64 (err i)) ∧ Inv (i + 1) w' ∧ Below w0.heap.size W w') :
    Calls Tryz.prog 33 #[.slice a n c, .func (.func 39) #[] #[.pointer (some ⟨p1, 0, none⟩), .pointer (some ⟨p2, 0, none⟩)]] w fun e w' => e = .returned (.tuple #[.int .i64 (eaF err 0 n).1, .int .i64 (eaF err 0 n).2]) ∧ Below w0.heap.size w w' := by
  have l1 : n ≤ l.length ∧ l.length ≤ n := by have := h1.len; omega
  have m1 := h1.max
  have c1 := h1.cap
  obtain ⟨I, E, hR⟩ : ∃ I E, eaF err 0 n = (I, E) := ⟨_, _, rfl⟩
  rw [hR]
  dsimp only
  have HR := Lib.hid hR
  clear hR
  have hw := h0.size
  go_enter Tryz.func33, Tryz.ntmps33
  go_wp2_with fail
  go_loopw [11] (fun i wr => ∃ k : Nat, k ≤ n ∧ i = .int .i64 k ∧ eaF err k (n - k) = (I, E) ∧ Inv k wr ∧ Below w0.heap.size w wr) (fun i _ => n - (intOf i).toNat)
  case atStart => exact ⟨0, by omega, rfl, HR.out, hI, Below.refl _ _⟩
  case round =>
    obtain ⟨k, hk, rfl, ht, hi, hbr⟩ := hrel
    have HT := Lib.hid ht
    clear ht
    have hb0 := h0.trans hbr
    have hrs := hb0.size
    by_cases hlt : k < n
    · obtain ⟨cb, co, rfl, hcc⟩ := h1.at_ (by omega)
      have y0 := hcc k hlt
      rw [Nat.mul_one] at y0
      replace y0 := cell_keep y0 hb0
      clear hcc
      have hc := hcl k
      obtain ⟨rr, hrr⟩ : ∃ rr, l[k]?.getD lsr0 = rr := ⟨_, rfl⟩
      obtain ⟨x0, x1, x2⟩ := rr
      rw [hrr] at y0 hc
      clear hrr
      try dsimp only [hv] at y0 hc
      have HC := Lib.hid hc
      clear hc
      have hi1 : (k : Int) < (n : Int) := by omega
      have hi0 : (0 : Int) ≤ (k : Int) := by omega
      obtain ⟨R, hE⟩ : ∃ R, err k = R := ⟨_, rfl⟩
      have HE := Lib.hid hE
      clear hE
      have hi9 := Lib.hid hi
      clear hi
      go_wp2_with fail
      refine (HC.out _ hlt hi9.out hb0).mono ?_
      rintro e w1 ⟨rfl, hi2, hs⟩
      rw [HE.out]
      have hbn := hbr.trans hs
      have hI2 := Lib.hid hi2
      clear hi2
      by_cases hz : R = 0
      · subst hz
        have hE0 : ((0 : Int) != 0) = false := rfl
        go_wp2_with fail
        go_roundw
        case rel => exact ⟨k + 1, by omega, by go_num, (eaF_ok hlt HE.out).symm.trans HT.out, hI2.out, hbn⟩
        case measure => simp [intOf]; omega
      · have b1 : (R != 0) = true := by simpa using hz
        have hRE : (I, E) = ((k : Int), R) := by rw [← HT.out, eaF_bad hlt (by rw [HE.out]; exact hz), HE.out]
        injection hRE with e1 e2
        have E1 := Lib.hid e1
        have E2 := Lib.hid e2
        clear e1 e2 hz
        go_wp2_with fail
        refine bodyPost_ret (v := .tuple #[.int .i64 (k : Int), .int .i64 R]) (by simp [results, Tryz.results33]) rfl ⟨by rw [E1.out, E2.out], hbn⟩
    · have hle : (n : Int) ≤ (k : Int) := by omega
      have hR0 : (I, E) = (0, 0) := by rw [← HT.out, eaF_end (by omega)]
      injection hR0 with e1 e2
      subst e1 e2
      go_wp2_with fail
      refine bodyPost_ret (v := .tuple #[.int .i64 0, .int .i64 0]) (by simp [results, Tryz.results33]) rfl ⟨rfl, hbr⟩

set_option maxRecDepth 100000 in
set_option maxHeartbeats 1000000 in
theorem eachMass_any (p1 p2 : Nat) (a : Option Addr) (n c : Nat) (l : List Int) (w0 w : World) (err : Nat → Int) (Inv : Nat → World → Prop) (h1 : SI w0 a n c l) (h0 : Below w0.heap.size w0 w) (hI : Inv 0 w)
    (_ : ∀ i W W', Inv i W → Below W.heap.size W W' → Inv i W')
    (hcl : ∀ (i : Nat) (W : World), i < n → Inv i W → Below w0.heap.size w0 W → Calls Tryz.prog 46 #[.int .i64 (i : Int), .int .i64 (l[i]?.getD 0), .pointer (some ⟨p1, 0, none⟩), .pointer (some ⟨p2, 0, none⟩)] W fun e w' => e = .returned (.int .i64 (err i)) ∧ Inv (i + 1) w' ∧ Below w0.heap.size W w') :
    Calls Tryz.prog 45 #[.slice a n c, .func (.func 46) #[] #[.pointer (some ⟨p1, 0, none⟩), .pointer (some ⟨p2, 0, none⟩)]] w fun e w' => e = .returned (.tuple #[.int .i64 (eaF err 0 n).1, .int .i64 (eaF err 0 n).2]) ∧ Below w0.heap.size w w' := by
  have l1 : n ≤ l.length ∧ l.length ≤ n := by have := h1.len; omega
  have m1 := h1.max
  have c1 := h1.cap
  obtain ⟨I, E, hR⟩ : ∃ I E, eaF err 0 n = (I, E) := ⟨_, _, rfl⟩
  rw [hR]
  dsimp only
  have HR := Lib.hid hR
  clear hR
  have hw := h0.size
  go_enter Tryz.func45, Tryz.ntmps45
  go_wp2_with fail
  go_loopw [11] (fun i wr => ∃ k : Nat, k ≤ n ∧ i = .int .i64 k ∧ eaF err k (n - k) = (I, E) ∧ Inv k wr ∧ Below w0.heap.size w wr) (fun i _ => n - (intOf i).toNat)
  case atStart => exact ⟨0, by omega, rfl, HR.out, hI, Below.refl _ _⟩
  case round =>
    obtain ⟨k, hk, rfl, ht, hi, hbr⟩ := hrel
    have HT := Lib.hid ht
    clear ht
    have hb0 := h0.trans hbr
    have hrs := hb0.size
    by_cases hlt : k < n
    · obtain ⟨cb, co, rfl, hcc⟩ := h1.at_ (by omega)
      have y0 := hcc k hlt
      replace y0 := cell_keep y0 hb0
      clear hcc
      have hc := hcl k
      obtain ⟨rr, hrr⟩ : ∃ rr, l[k]?.getD 0 = rr := ⟨_, rfl⟩
      rw [hrr] at y0 hc
      clear hrr
      try dsimp only at y0 hc
      have HC := Lib.hid hc
      clear hc
      have hi1 : (k : Int) < (n : Int) := by omega
      have hi0 : (0 : Int) ≤ (k : Int) := by omega
      obtain ⟨R, hE⟩ : ∃ R, err k = R := ⟨_, rfl⟩
      have HE := Lib.hid hE
      clear hE
      have hi9 := Lib.hid hi
      clear hi
      go_wp2_with fail
      refine (HC.out _ hlt hi9.out hb0).mono ?_
      rintro e w1 ⟨rfl, hi2, hs⟩
      rw [HE.out]
      have hbn := hbr.trans hs
      have hI2 := Lib.hid hi2
      clear hi2
      by_cases hz : R = 0
      · subst hz
        have hE0 : ((0 : Int) != 0) = false := rfl
        go_wp2_with fail
        go_roundw
        case rel => exact ⟨k + 1, by omega, by go_num, (eaF_ok hlt HE.out).symm.trans HT.out, hI2.out, hbn⟩
        case measure => simp [intOf]; omega
      · have b1 : (R != 0) = true := by simpa using hz
        have hRE : (I, E) = ((k : Int), R) := by rw [← HT.out, eaF_bad hlt (by rw [HE.out]; exact hz), HE.out]
        injection hRE with e1 e2
        have E1 := Lib.hid e1
        have E2 := Lib.hid e2
        clear e1 e2 hz
        go_wp2_with fail
        refine bodyPost_ret (v := .tuple #[.int .i64 (k : Int), .int .i64 R]) (by simp [results, Tryz.results45]) rfl ⟨by rw [E1.out, E2.out], hbn⟩
    · have hle : (n : Int) ≤ (k : Int) := by omega
      have hR0 : (I, E) = (0, 0) := by rw [← HT.out, eaF_end (by omega)]
      injection hR0 with e1 e2
      subst e1 e2
      go_wp2_with fail
      refine bodyPost_ret (v := .tuple #[.int .i64 0, .int .i64 0]) (by simp [results, Tryz.results45]) rfl ⟨rfl, hbr⟩

set_option maxRecDepth 100000 in
set_option maxHeartbeats 1000000 in
theorem eachAdd_any (p1 p2 p3 : Nat) (a : Option Addr) (n c : Nat) (l : List Int) (w0 w : World) (err : Nat → Int) (Inv : Nat → World → Prop) (h1 : SI w0 a n c l) (h0 : Below w0.heap.size w0 w) (hI : Inv 0 w)
    (_ : ∀ i W W', Inv i W → Below W.heap.size W W' → Inv i W')
    (hcl : ∀ (i : Nat) (W : World), i < n → Inv i W → Below w0.heap.size w0 W → Calls Tryz.prog 47 #[.int .i64 (i : Int), .int .i64 (l[i]?.getD 0), .pointer (some ⟨p1, 0, none⟩), .pointer (some ⟨p2, 0, none⟩), .pointer (some ⟨p3, 0, none⟩)] W fun e w' => e = .returned (.int .i64 (err i)) ∧ Inv (i + 1) w' ∧ Below w0.heap.size W w') :
    Calls Tryz.prog 45 #[.slice a n c, .func (.func 47) #[] #[.pointer (some ⟨p1, 0, none⟩), .pointer (some ⟨p2, 0, none⟩), .pointer (some ⟨p3, 0, none⟩)]] w fun e w' => e = .returned (.tuple #[.int .i64 (eaF err 0 n).1, .int .i64 (eaF err 0 n).2]) ∧ Below w0.heap.size w w' := by
  have l1 : n ≤ l.length ∧ l.length ≤ n := by have := h1.len; omega
  have m1 := h1.max
  have c1 := h1.cap
  obtain ⟨I, E, hR⟩ : ∃ I E, eaF err 0 n = (I, E) := ⟨_, _, rfl⟩
  rw [hR]
  dsimp only
  have HR := Lib.hid hR
  clear hR
  have hw := h0.size
  go_enter Tryz.func45, Tryz.ntmps45
  go_wp2_with fail
  go_loopw [11] (fun i wr => ∃ k : Nat, k ≤ n ∧ i = .int .i64 k ∧ eaF err k (n - k) = (I, E) ∧ Inv k wr ∧ Below w0.heap.size w wr) (fun i _ => n - (intOf i).toNat)
  case atStart => exact ⟨0, by omega, rfl, HR.out, hI, Below.refl _ _⟩
  case round =>
    obtain ⟨k, hk, rfl, ht, hi, hbr⟩ := hrel
    have HT := Lib.hid ht
    clear ht
    have hb0 := h0.trans hbr
    have hrs := hb0.size
    by_cases hlt : k < n
    · obtain ⟨cb, co, rfl, hcc⟩ := h1.at_ (by omega)
      have y0 := hcc k hlt
      replace y0 := cell_keep y0 hb0
      clear hcc
      have hc := hcl k
      obtain ⟨rr, hrr⟩ : ∃ rr, l[k]?.getD 0 = rr := ⟨_, rfl⟩
      rw [hrr] at y0 hc
      clear hrr
      try dsimp only at y0 hc
      have HC := Lib.hid hc
      clear hc
      have hi1 : (k : Int) < (n : Int) := by omega
      have hi0 : (0 : Int) ≤ (k : Int) := by omega
      obtain ⟨R, hE⟩ : ∃ R, err k = R := ⟨_, rfl⟩
      have HE := Lib.hid hE
      clear hE
      have hi9 := Lib.hid hi
      clear hi
      go_wp2_with fail
      refine (HC.out _ hlt hi9.out hb0).mono ?_
      rintro e w1 ⟨rfl, hi2, hs⟩
      rw [HE.out]
      have hbn := hbr.trans hs
      have hI2 := Lib.hid hi2
      clear hi2
      by_cases hz : R = 0
      · subst hz
        have hE0 : ((0 : Int) != 0) = false := rfl
        go_wp2_with fail
        go_roundw
        case rel => exact ⟨k + 1, by omega, by go_num, (eaF_ok hlt HE.out).symm.trans HT.out, hI2.out, hbn⟩
        case measure => simp [intOf]; omega
      · have b1 : (R != 0) = true := by simpa using hz
        have hRE : (I, E) = ((k : Int), R) := by rw [← HT.out, eaF_bad hlt (by rw [HE.out]; exact hz), HE.out]
        injection hRE with e1 e2
        have E1 := Lib.hid e1
        have E2 := Lib.hid e2
        clear e1 e2 hz
        go_wp2_with fail
        refine bodyPost_ret (v := .tuple #[.int .i64 (k : Int), .int .i64 R]) (by simp [results, Tryz.results45]) rfl ⟨by rw [E1.out, E2.out], hbn⟩
    · have hle : (n : Int) ≤ (k : Int) := by omega
      have hR0 : (I, E) = (0, 0) := by rw [← HT.out, eaF_end (by omega)]
      injection hR0 with e1 e2
      subst e1 e2
      go_wp2_with fail
      refine bodyPost_ret (v := .tuple #[.int .i64 0, .int .i64 0]) (by simp [results, Tryz.results45]) rfl ⟨rfl, hbr⟩

set_option maxRecDepth 100000 in
set_option maxHeartbeats 400000 in
theorem lawQ_any (i a b c : Int) (w : World) : Calls Tryz.prog 29 #[.int .i64 i, .agg #[.int .i64 a, .int .i64 b, .int .i64 c]] w fun e w' => e = .returned (.int .i64 (qtyE a b c)) ∧ Below w.heap.size w w' := by
  have y0 := alloc_new w (.cells #[.int .i64 a, .int .i64 b, .int .i64 c] 53)
  have BW : Below w.heap.size w (w.alloc (.cells #[.int .i64 a, .int .i64 b, .int .i64 c] 53)) := (Below.refl _ _).alloc (Nat.le_refl _) _
  have f0 := cell_block y0 0
  have f1 := cell_block y0 1
  have f2 := cell_block y0 2
  go_enter Tryz.func29, Tryz.ntmps29
  go_wp2_with fail
  refine (quantityErr_any a b c _).mono ?_
  rintro e w1 ⟨rfl, hs⟩
  go_wp2_with fail
  go_ret
  exact ⟨rfl, BW.trans (hs.mono BW.size)⟩

set_option maxRecDepth 100000 in
set_option maxHeartbeats 400000 in
theorem rankQ_any (i a b c : Int) (w : World) : Calls Tryz.prog 41 #[.int .i64 i, .agg #[.int .i64 a, .int .i64 b, .int .i64 c]] w fun e w' => e = .returned (.int .i64 (qtyE a b c)) ∧ Below w.heap.size w w' := by
  have y0 := alloc_new w (.cells #[.int .i64 a, .int .i64 b, .int .i64 c] 53)
  have BW : Below w.heap.size w (w.alloc (.cells #[.int .i64 a, .int .i64 b, .int .i64 c] 53)) := (Below.refl _ _).alloc (Nat.le_refl _) _
  have f0 := cell_block y0 0
  have f1 := cell_block y0 1
  have f2 := cell_block y0 2
  go_enter Tryz.func41, Tryz.ntmps41
  go_wp2_with fail
  refine (quantityErr_any a b c _).mono ?_
  rintro e w1 ⟨rfl, hs⟩
  go_wp2_with fail
  go_ret
  exact ⟨rfl, BW.trans (hs.mono BW.size)⟩

/-- Index and error of quantities. -/
def qt3 (x : QuR) : Int := qtyE x.1 x.2.1 x.2.2
def qsE (l : List QuR) : Int × Int := eaF (fun i => qt3 (l[i]?.getD qur0)) 0 l.length
theorem qt3_ok {x : QuR} (h : qt3 x = 0) : (-4 ≤ x.1 ∧ x.1 ≤ 4) ∧ (-4 ≤ x.2.1 ∧ x.2.1 ≤ 4) ∧ (-4 ≤ x.2.2 ∧ x.2.2 ≤ 4) := by
  unfold qt3 qtyE at h
  have h1 : exB [x.1, x.2.1, x.2.2] 3 = true := by
    cases hb : exB [x.1, x.2.1, x.2.2] 3
    · rw [hb] at h; simp [unlessE] at h
    · rfl
  have h2 := exB_all h1
  have a := szd_iff.1 (h2 0 (by omega))
  have b := szd_iff.1 (h2 1 (by omega))
  have c := szd_iff.1 (h2 2 (by omega))
  simp at a b c
  omega
theorem qsE_ok {l : List QuR} (h : (qsE l).2 = 0) (i : Nat) : (-4 ≤ (l[i]?.getD qur0).1 ∧ (l[i]?.getD qur0).1 ≤ 4) ∧ (-4 ≤ (l[i]?.getD qur0).2.1 ∧ (l[i]?.getD qur0).2.1 ≤ 4) ∧ (-4 ≤ (l[i]?.getD qur0).2.2 ∧ (l[i]?.getD qur0).2.2 ≤ 4) := by
  rcases Nat.lt_or_ge i l.length with hi | hi
  · exact qt3_ok (eaF_all (k := 0) (m := l.length) (n := l.length) (by omega) h i (by omega) hi)
  · rw [List.getElem?_eq_none hi]
    simp [qur0]
end Go.Proofs.YtaiikekgckjdeaaGreat

namespace Go.Proofs.YtaiikekgckjdeaaGreat
set_option maxRecDepth 100000
open Go.ChangeShapes Go.WideShapes Go.ChangeAt Go.RowKit
/-- A list within a slice of lists: its numbers; where it has no room its place may be anything. -/
theorem open_inner {H : Type} {enc : TypeId × Value → H} {w : World} {fuel : Nat} {cs : List Value} {x : DataW H × List MemPlace}
    (h : DataW.trod enc Tryz.prog w 0 (fun _ => true) true fuel 29 cs = some x) :
    ∃ a n c l, cs = [.slice a n c] ∧ SI w a n c l ∧ ∀ q ∈ l, (Lit.int .i64 q).wf = true := by
  rcases open_ints Tryz.underlying29 Tryz.underlying3 (by kernel_rfl) h with ⟨rfl, _⟩ | ⟨y, l, c', zs, rfl, _, hl, hm, hz, _, hcell, hwz⟩
  · exact ⟨none, 0, 0, [], rfl, Sl.nil w 1, by simp⟩
  · have hz' : zs.length = c' := by simpa using hz
    refine ⟨some y, l, c', zs.take l, rfl, ⟨by simp; omega, hl, hm, ?_⟩, fun q hq => hwz q (List.mem_of_mem_take hq)⟩
    by_cases h0 : c' = 0
    · exact .inl h0
    right
    obtain ⟨b, off, spot⟩ := y
    have hs : spot = none := by
      have := hcell 0 (by omega)
      rw [show Addr.add ⟨b, off, spot⟩ 0 = ⟨b, off, spot⟩ from rfl] at this
      unfold World.cell? at this
      split at this
      · cases spot with
        | none => rfl
        | some _ => simp at this
      · cases this
    subst hs
    refine ⟨b, off, rfl, fun i hi => ?_⟩
    have := hcell i (by omega)
    rw [add_none] at this
    rw [this, List.getElem?_map, List.getElem?_take_of_lt (by omega), List.getElem?_eq_getElem (by omega)]
    simp [List.getD_eq_getElem?_getD, List.getElem?_eq_getElem (show i < zs.length by omega)]

/-- An array of two lists of numbers that came in. -/
theorem open_lists2 {H : Type} {enc : TypeId × Value → H} {w : World} {base : Nat} {v : Value} {d : DataW H} {p : List MemPlace}
    (hok : Value.okWide Tryz.prog w .any base 30 v) (h : DataW.Trod enc Tryz.prog w 0 (fun _ => true) true 30 v d p) :
    ∃ a n c l b m e k, v = .agg #[.slice a n c, .slice b m e] ∧ SI w a n c l ∧ (∀ q ∈ l, (Lit.int .i64 q).wf = true) ∧ SI w b m e k ∧ (∀ q ∈ k, (Lit.int .i64 q).wf = true) := by
  simp only [Value.okWide, Tryz.underlying30] at hok
  obtain ⟨cs, rfl, hsz, ts', hts', _, hall⟩ := hok
  have hts : Tryz.prog.cellTypes Tryz.prog.depth 30 = some [29, 29] := by kernel_rfl
  rw [hts] at hts'
  cases hts'
  obtain ⟨x, y, rfl⟩ := two_cells (hsz.trans (by kernel_rfl))
  obtain ⟨fuel, hf⟩ := h
  obtain ⟨xs, n, _, _, _, hxl, hx⟩ := DataW.trod_array Tryz.underlying30 hf
  have c3 : Tryz.prog.cellsOf 29 = 1 := by kernel_rfl
  have h0 := hx 0 (by omega)
  have h1 := hx 1 (by omega)
  simp only [c3] at h0 h1
  rw [List.getElem?_eq_getElem (by omega)] at h0 h1
  obtain ⟨ty, hty, ho⟩ := hall 0 x rfl
  cases hty
  obtain ⟨k1, d', p', k2⟩ := cell_of_slice Tryz.underlying29 ho h0
  obtain ⟨a, n, c, l, rfl, hs, hwl⟩ := open_nums k1 k2
  obtain ⟨ty, hty, ho⟩ := hall 1 y rfl
  cases hty
  obtain ⟨k1, d', p', k2⟩ := cell_of_slice Tryz.underlying29 ho h1
  obtain ⟨a', n', c', l', rfl, hs', hwl'⟩ := open_nums k1 k2
  exact ⟨a, n, c, l, a', n', c', l', rfl, hs, hwl, hs', hwl'⟩
theorem trod_qu {H : Type} {enc : TypeId × Value → H} {w : World} {m : Nat} {cs : List Value} {x : DataW H × List MemPlace} (h : DataW.trod enc Tryz.prog w 0 (fun _ => true) true m 53 cs = some x) :
    ∃ y : QuR, cs = encQuR y ∧ ((Lit.int .i64 y.1).wf = true ∧ (Lit.int .i64 y.2.1).wf = true ∧ (Lit.int .i64 y.2.2).wf = true) := by
  obtain ⟨a, b, c, rfl, h1, h2, h3⟩ := trod_ints3 h
  exact ⟨(a, b, c), rfl, h1, h2, h3⟩
theorem trod_ls {H : Type} {enc : TypeId × Value → H} {w : World} {m : Nat} {cs : List Value} {x : DataW H × List MemPlace} (h : DataW.trod enc Tryz.prog w 0 (fun _ => true) true m 29 cs = some x) :
    ∃ y : LsR, cs = encLsR y ∧ ∃ l, SI w y.1 y.2.1 y.2.2 l ∧ ∀ q ∈ l, (Lit.int .i64 q).wf = true := by
  obtain ⟨a, n, c, l, rfl, h1, h2⟩ := open_inner h
  exact ⟨(a, n, c), rfl, l, h1, h2⟩
theorem lss_of {w : World} : ∀ raw : List LsR, (∀ y ∈ raw, ∃ l, SI w y.1 y.2.1 y.2.2 l ∧ ∀ q ∈ l, (Lit.int .i64 q).wf = true) → ∃ ts : List (List Int), raw.length = ts.length ∧ (∀ i, i < ts.length → SI w (raw[i]?.getD lsr0).1 (raw[i]?.getD lsr0).2.1 (raw[i]?.getD lsr0).2.2 (ts[i]?.getD [])) ∧ ∀ l ∈ ts, ∀ q ∈ l, (Lit.int .i64 q).wf = true
  | [], _ => ⟨[], rfl, fun i hi => absurd hi (by simp), by simp⟩
  | y :: raw, h => by
    obtain ⟨f, h1, h2⟩ := h y (by simp)
    obtain ⟨fs, h3, h4, h5⟩ := lss_of raw (fun z hz => h z (by simp [hz]))
    refine ⟨f :: fs, by simp [h3], fun i hi => ?_, fun g hg => ?_⟩
    · cases i with
      | zero => exact h1
      | succ i => exact h4 i (by simpa using hi)
    · rcases List.mem_cons.1 hg with rfl | hg
      · exact h2
      · exact h5 g hg
/-- A law that came in. -/
theorem open_law {H : Type} {enc : TypeId × Value → H} {w : World} {base : Nat} {v : Value} {d : DataW H} {p : List MemPlace}
    (hok : Value.okWide Tryz.prog w .any base 25 v) (h : DataW.Trod enc Tryz.prog w 0 (fun _ => true) true 25 v d p) :
    ∃ a n c qs b m e raw ts, v = .agg #[.slice a n c, .slice b m e] ∧ SQuR w a n c qs ∧ LlV w b m e raw ts := by
  obtain ⟨cs, rfl, hsz, hall, hf⟩ := open_struct (ts := [22, 23]) Tryz.underlying25 (by kernel_rfl) hok h
  obtain ⟨x, y, rfl⟩ := two_cells (hsz.trans (by kernel_rfl))
  obtain ⟨m0, x0, h0⟩ := hf 0 _ rfl
  obtain ⟨m1, x1, h1⟩ := hf 1 _ rfl
  simp only at h0 h1
  obtain ⟨ty, hty, ho⟩ := hall 0 x rfl
  cases hty
  obtain ⟨k1, d', p', k2⟩ := cell_of_slice Tryz.underlying22 ho h0
  obtain ⟨a, n, c, qs, rfl, hs, _⟩ := open_enc encQuR encQuR_len qur0 _ Tryz.underlying22 (by kernel_rfl) (by decide) (fun _ _ _ => trod_qu) k1 k2
  obtain ⟨ty, hty, ho⟩ := hall 1 y rfl
  cases hty
  obtain ⟨k1, d', p', k2⟩ := cell_of_slice Tryz.underlying23 ho h1
  obtain ⟨b, m, e, raw, rfl, hs2, hq⟩ := open_enc encLsR encLsR_len lsr0 (fun y => ∃ l, SI w y.1 y.2.1 y.2.2 l ∧ ∀ q ∈ l, (Lit.int .i64 q).wf = true) Tryz.underlying23 (by kernel_rfl) (by decide) (fun _ _ _ => trod_ls) k1 k2
  obtain ⟨ts, h3, h4, _⟩ := lss_of raw hq
  exact ⟨a, n, c, qs, b, m, e, raw, ts, rfl, hs, hs2, h3, h4⟩
end Go.Proofs.YtaiikekgckjdeaaGreat
