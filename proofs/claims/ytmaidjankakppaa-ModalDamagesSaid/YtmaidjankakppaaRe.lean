/- Contracts: numbers of any size as ints, ratios as fractions. -/
import Derived.Test.YtmaidjankakppaaRd
import Derived.Test.YtmaidjankakppaaYa
namespace Go.Proofs.Ytmaidjankakppaa
open Go.RowKit Go.Wides
open Calmly (Kept)
attribute [local go_sem] field_wide0 field_wide1

theorem dv_drop_step (xs : List Int) (k : Nat) (hk : k < xs.length) : dv (xs.drop k) = dv (xs.drop (k + 1)) * 1000000000 + xs[k]?.getD 0 := by
  rw [List.drop_eq_getElem_cons hk, List.getElem?_eq_getElem hk]
  simp only [dv, Option.getD_some]
  omega
theorem sign_mul_dv {xs : List Int} {z : Int} (h : dv xs = z.natAbs) : z.sign * dv xs = z := by rw [h]; exact Int.sign_mul_natAbs z

theorem ret_two2 {a b : Int} {t : Bool} (h : a = b) : Ending.returned (Value.tuple #[.int .i64 a, .bool t]) = .returned (.tuple #[.int .i64 b, .bool t]) := by cases h; rfl

set_option maxRecDepth 100000 in
set_option maxHeartbeats 1000000 in
theorem WideInt_any (s : Int) (a : Option Addr) (n c : Nat) (z : Int) (w : World) (h : WideV w s a n c z) (hz : z.natAbs < 1000000000000000000) :
    Calls Try.prog 130 #[.agg #[.int .i64 s, .slice a n c]] w fun e w' => e = .returned (.tuple #[.int .i64 z, .bool true]) ∧ Below w.heap.size w w' := by
  have hb : ∀ o, Below w.heap.size w (w.alloc o) := fun o => (Below.refl _ _).alloc (Nat.le_refl _) _
  have hsb := h.s_bd
  obtain ⟨ds, h1, _, h3, h4, h5, h6⟩ := h
  obtain ⟨l1, l2⟩ : n ≤ ds.length ∧ ds.length ≤ n := by have := h1.len; omega
  have m1 := h1.max
  have c1 := h1.cap
  have hn : n ≤ 2 := by
    rcases Nat.lt_or_ge 2 n with h2 | h2
    · have h7 := dv_ge h3 h4 (by intro h0; rw [h0] at l1; simp at l1; omega)
      have h8 : (1000000000 : Int) ^ 2 ≤ 1000000000 ^ (ds.length - 1) := pow_mono (by omega)
      have h9 : (1000000000 : Int) ^ 2 = 1000000000000000000 := by decide
      omega
    · exact h2
  have HF : s * dv ds = z := by rw [h6]; exact sign_mul_dv h5
  have HFs := Lib.hid HF
  have hd1 : ∀ k, k ≤ n → 1 ≤ k → 0 ≤ dv (ds.drop k) ∧ dv (ds.drop k) < 1000000000 := fun k hk hk1 => by
    have e1 := dv_nonneg (h3.drop k)
    have e2 := dv_lt (h3.drop k)
    have e3 : (1000000000 : Int) ^ (ds.drop k).length ≤ 1000000000 ^ 1 := pow_mono (by simp; omega)
    omega
  have hd0 : 0 ≤ dv ds ∧ dv ds < 1000000000000000000 := by
    have e1 := dv_nonneg h3
    have e2 := dv_lt h3
    have e3 : (1000000000 : Int) ^ ds.length ≤ 1000000000 ^ 2 := pow_mono (by omega)
    have h9 : (1000000000 : Int) ^ 2 = 1000000000000000000 := by decide
    omega
  have hsd : -1000000000000000000 < s * dv ds ∧ s * dv ds < 1000000000000000000 := by
    rcases (by omega : s = -1 ∨ s = 0 ∨ s = 1) with rfl | rfl | rfl <;> omega
  clear h5 h6 h4 HF hz
  go_enter Try.func130, Try.ntmps130
  go_wp2
  go_loop [4, 5] (fun x i => ∃ k : Nat, k ≤ n ∧ i = .int .i64 ((k : Int) - 1) ∧ ∃ y : Int, x = .int .i64 y ∧ Hid (y = dv (ds.drop k))) (fun _ i => (intOf i + 1).toNat)
  case atStart => exact ⟨n, by omega, rfl, 0, rfl, by rw [List.drop_of_length_le (by omega)]; rfl⟩
  case round =>
    obtain ⟨k, hk, rfl, y, rfl, hy⟩ := hrel
    by_cases hlt : 0 < k
    · obtain ⟨b1, o1, rfl, hc1⟩ := h1.at_ (by omega)
      have e1 := hc1 (k - 1) (by omega)
      clear hc1
      have hyd : 0 ≤ y ∧ y < 1000000000 := by rw [hy.out]; exact hd1 k hk (by omega)
      have hdg := h3.get (k - 1)
      have hst := Lib.hid (dv_drop_step ds (k - 1) (by omega))
      have hi : (k : Int) - 1 < (n : Int) := by omega
      have hi0 : (0 : Int) ≤ (k : Int) - 1 := by omega
      have hi1 : (1 : Int) ≤ (k : Int) := by omega
      have hj : ((k : Int) - 1).toNat = k - 1 := by omega
      have hlt1 := cell_lt e1
      clear hd1 hd0 hsd
      go_wp2_with fail
      go_round
      case rel => exact ⟨k - 1, by omega, by congr 1; omega, _, rfl, by refine Lib.hid ?_; rw [hst.out, show k - 1 + 1 = k from by omega, ← hy.out]⟩
      case measure => simp [intOf]; omega
    · obtain rfl : k = 0 := by omega
      have hy' : y = dv ds := by simpa using hy.out
      clear hd1 hy
      subst hy'
      go_wp2_with fail
      go_ret2
      exact ⟨ret_two2 HFs.out, hb _⟩

/-- A number is stored. -/
theorem wideFin {V : World} {r : Nat} {u0 u1 : Value} {s : Int} {a : Option Addr} {m c : Nat} {z : Int} (X : V.heap[r]? = some (.cells #[u0, u1] 70)) (h1 : WideV V s a m c z) :
    ((V.setCell ⟨r, 0, none⟩ (.int .i64 s)).setCell ⟨r, 1, none⟩ (.slice a m c)).heap[r]? = some (.cells #[.int .i64 s, .slice a m c] 70) ∧
    WideV ((V.setCell ⟨r, 0, none⟩ (.int .i64 s)).setCell ⟨r, 1, none⟩ (.slice a m c)) s a m c z := by
  have hT : BlkT V r 70 := ⟨_, X⟩
  exact ⟨blkSet (blkSet X 0 _) 1 _, (h1.set hT (by decide)).set (hT.set _ _) (by decide)⟩
theorem below2 {B : Nat} {w V : World} {r : Nat} {x y : Value} (h : Below B w V) (hr : B ≤ r) : Below B w ((V.setCell ⟨r, 0, none⟩ x).setCell ⟨r, 1, none⟩ y) :=
  (h.setCell (p := ⟨r, 0, none⟩) hr _).setCell (p := ⟨r, 1, none⟩) hr _

set_option maxRecDepth 100000 in
set_option maxHeartbeats 1000000 in
theorem RatioFloor_any (s1 : Int) (a1 : Option Addr) (n1 c1 : Nat) (s2 : Int) (a2 : Option Addr) (n2 c2 : Nat) (p : Rat) (w : World) (h : RatV w s1 a1 n1 c1 s2 a2 n2 c2 p) (hl1 : n1 ≤ 1000000000) (hl2 : n2 ≤ 1000000000) :
    Calls Try.prog 144 #[.agg #[.int .i64 s1, .slice a1 n1 c1, .int .i64 s2, .slice a2 n2 c2]] w fun e w' => ∃ s a m c, e = .returned (.agg #[.int .i64 s, .slice a m c]) ∧ WideV w' s a m c (p.num / (p.den : Int)) ∧ Below w.heap.size w w' := by
  have hb2 : Below w.heap.size w ((w.alloc (.cells #[.int .i64 s1, .slice a1 n1 c1, .int .i64 s2, .slice a2 n2 c2] 72)).alloc (.cells #[.int .i64 0, .slice none 0 0] 70)) := ((Below.refl _ _).alloc (Nat.le_refl _) _).alloc (by simp) _
  have X2 : ((w.alloc (.cells #[.int .i64 s1, .slice a1 n1 c1, .int .i64 s2, .slice a2 n2 c2] 72)).alloc (.cells #[.int .i64 0, .slice none 0 0] 70)).heap[w.heap.size + 1]? = some (.cells #[.int .i64 0, .slice none 0 0] 70) := by
    have := alloc_new (w.alloc (.cells #[.int .i64 s1, .slice a1 n1 c1, .int .i64 s2, .slice a2 n2 c2] 72)) (.cells #[.int .i64 0, .slice none 0 0] 70)
    simp only [World.size_alloc] at this
    exact this
  have hpos : (0 : Int) < (p.den : Int) := by have := p.den_nz; omega
  have H1 := h.1.keep hb2
  have H2 := h.2.keep hb2
  have BW := hb2
  clear hb2 h
  go_enter Try.func144, Try.ntmps144
  go_wp2_with fail
  refine (WideFloor_any s1 s2 a1 a2 n1 n2 c1 c2 p.num (p.den : Int) _ H1 H2 hpos (by omega) (by omega)).mono ?_
  rintro e w1 ⟨s, a, m, c, rfl, ⟨_, V1⟩, hs⟩
  replace X2 := blk_keep X2 hs
  replace BW := BW.trans (hs.mono BW.size)
  have sX := blk_lt X2
  have x0 := cell_block X2 0
  have x1 := cell_block X2 1
  have f0 := frozen_block X2 0
  have f1 := frozen_block X2 1
  obtain ⟨X4, W1⟩ := wideFin X2 V1
  have r0 := cell_block X4 0
  have r1 := cell_block X4 1
  go_wp2_with fail
  refine bodyPost_ret (v := .agg #[.int .i64 s, .slice a m c]) (by simp [results, Try.results144, go_sem, r0, r1]) rfl ⟨_, _, _, _, rfl, W1, below2 BW (by omega)⟩
end Go.Proofs.Ytmaidjankakppaa
