/- Plain laws of the stiffness and the drifts of a frame; base.Lowest. The stiffnesses of the storeys of a frame. The stiffness of a frame: a matrix of the call's own. A row yielded from its end; the drifts under forces: their beginning. The reference: whole, ForcesErr, Drifts, Stiffness. -/
import Derived.Test.YtaiikekgckjdeaaK23
namespace Go.Proofs.Ytaiikekgckjdeaa
open Go.RowKit
open Calmly (Kept)
def fqF (x y : Int) : Int × Int := (x.tdiv (Int.gcd x y), y.tdiv (Int.gcd x y))
theorem fqF_mul (m : Int) {q : Int} (hq : 0 < q) : fqF (m * q) q = (m, 1) := by
  have h : (Int.gcd (m * q) q : Int) = q := by
    have h1 : Int.gcd (m * q) q = q.natAbs := by simp
    rw [h1]; omega
  unfold fqF
  rw [h, Int.mul_tdiv_cancel _ (by omega), Int.tdiv_self (by omega)]
theorem fqF_parts (s : Int) {k : Int} (hk : 0 < k) : 0 < (fqF s k).2 ∧ (fqF s k).2 ≤ k ∧ (fqF s k).1 * k = s * (fqF s k).2 ∧ (fqF s k).1.natAbs ≤ s.natAbs := by
  have hg0 : (0 : Int) < Int.gcd s k := by have := Int.gcd_pos_of_ne_zero_right (a := s) (b := k) (by omega); omega
  obtain ⟨a, ha⟩ : (Int.gcd s k : Int) ∣ s := Int.gcd_dvd_left s k
  obtain ⟨b, hb⟩ : (Int.gcd s k : Int) ∣ k := Int.gcd_dvd_right s k
  unfold fqF
  generalize (Int.gcd s k : Int) = g at *
  dsimp only
  subst ha hb
  rw [Int.mul_tdiv_cancel_left _ (by omega), Int.mul_tdiv_cancel_left _ (by omega)]
  have hb0 : 0 < b := Int.pos_of_mul_pos_right hk (by omega)
  refine ⟨hb0, ?_, by grind, ?_⟩
  · have := Int.mul_le_mul_of_nonneg_right (show 1 ≤ g by omega) (show 0 ≤ b by omega)
    omega
  · rw [Int.natAbs_mul]
    exact Nat.le_mul_of_pos_left _ (by omega)
theorem sumR_shift (f : Nat → Int) (n : Nat) : sumR f (n + 1) = f 0 + sumR (fun j => f (j + 1)) n := by
  induction n with
  | zero => simp [sumR]
  | succ n ih => rw [sumR, ih, sumR]; omega
/-- The forces on a floor and on those above it. -/
def suf (p : List Int) (i : Nat) : Int := sumR (fun j => p[i + j]?.getD 0) (p.length - i)
theorem suf_end (p : List Int) {i : Nat} (h : p.length ≤ i) : suf p i = 0 := by
  unfold suf
  rw [Nat.sub_eq_zero_of_le h]
  rfl
theorem suf_step (p : List Int) {i : Nat} (h : i < p.length) : suf p i = p[i]?.getD 0 + suf p (i + 1) := by
  unfold suf
  rw [show p.length - i = (p.length - (i + 1)) + 1 by omega, sumR_shift]
  congr 2
  funext j
  rw [show i + (j + 1) = i + 1 + j by omega]
theorem sumR_bds {f : Nat → Int} {B : Int} (h : ∀ i, -B ≤ f i ∧ f i ≤ B) : ∀ n : Nat, -(n * B) ≤ sumR f n ∧ sumR f n ≤ n * B
  | 0 => by simp [sumR]
  | n + 1 => by
    have := sumR_bds h n
    have := h n
    rw [sumR]
    push_cast
    constructor <;> grind
theorem suf_bd {p : List Int} (h : ∀ i : Nat, -1000000 ≤ p[i]?.getD 0 ∧ p[i]?.getD 0 ≤ 1000000) (hl : p.length ≤ 7) (i : Nat) : -7000000 ≤ suf p i ∧ suf p i ≤ 7000000 := by
  have := sumR_bds (f := fun j => p[i + j]?.getD 0) (B := 1000000) (fun j => h _) (p.length - i)
  unfold suf
  have h2 : ((p.length - i : Nat) : Int) ≤ 7 := by omega
  omega
/-- An entry of the stiffness. -/
def stE (K : Nat → Int) (r c : Nat) : Int := if r = c then K r + K (r + 1) else if c + 1 = r then -K r else if r + 1 = c then -K c else 0
/-- The same when k storeys are in. -/
def stE' (K : Nat → Int) (k r c : Nat) : Int := stE (fun i => if i < k then K i else 0) r c
def stR (K : Nat → Int) (n k r : Nat) : List Int := (List.range n).map (stE' K k r)
theorem stR_len (K : Nat → Int) (n k r : Nat) : (stR K n k r).length = n := by simp [stR]
theorem stR_at (K : Nat → Int) (n k r : Nat) {c : Nat} (h : c < n) : (stR K n k r)[c]?.getD 0 = stE' K k r c := by simp [stR, h]
theorem stR_zero (K : Nat → Int) (n r : Nat) : stR K n 0 r = List.replicate n 0 := by
  apply List.ext_getElem
  · simp [stR]
  · intro c h1 h2
    simp [stR, stE', stE]
theorem list_set {α : Type} (f g : Nat → α) (n k : Nat) (v : α) (hv : g k = v) (ho : ∀ c, c < n → c ≠ k → g c = f c) : ((List.range n).map f).set k v = (List.range n).map g := by
  apply List.ext_getElem
  · simp
  · intro c h1 h2
    simp at h1
    rw [List.getElem_set]
    split
    · subst_vars; simp
    · rename_i h3
      simp [ho c h1 (fun e => h3 e.symm)]
/-- What one more storey changes. -/
theorem stE_other (K : Nat → Int) (k r c : Nat) (h : r ≠ k) (h' : r + 1 ≠ k) : stE' K (k + 1) r c = stE' K k r c := by
  unfold stE' stE; grind
theorem stE_own (K : Nat → Int) (k : Nat) : stE' K (k + 1) k k = stE' K k k k + K k := by
  unfold stE' stE; grind
theorem stE_left (K : Nat → Int) (k : Nat) (h : 0 < k) : stE' K (k + 1) k (k - 1) = stE' K k k (k - 1) - K k := by
  unfold stE' stE; grind
theorem stE_up (K : Nat → Int) (k : Nat) (h : 0 < k) : stE' K (k + 1) (k - 1) (k - 1) = stE' K k (k - 1) (k - 1) + K k := by
  unfold stE' stE; grind
theorem stE_right (K : Nat → Int) (k : Nat) (h : 0 < k) : stE' K (k + 1) (k - 1) k = stE' K k (k - 1) k - K k := by
  unfold stE' stE; grind
theorem stE_rest (K : Nat → Int) (k c : Nat) (h : c ≠ k) (h' : c + 1 ≠ k) : stE' K (k + 1) k c = stE' K k k c := by
  unfold stE' stE; grind
theorem stE_rest' (K : Nat → Int) (k c : Nat) (h : c ≠ k) (h' : c + 1 ≠ k) (hk : 0 < k) : stE' K (k + 1) (k - 1) c = stE' K k (k - 1) c := by
  unfold stE' stE; grind
/-- The row of one storey, and that of the one below. -/
theorem stR_own (K : Nat → Int) (n k : Nat) : stR K n (k + 1) k = if k = 0 then (stR K n k k).set k (stE' K k k k + K k) else ((stR K n k k).set k (stE' K k k k + K k)).set (k - 1) (stE' K k k (k - 1) - K k) := by
  split
  · refine (list_set _ _ n k _ (stE_own K k) (fun c _ h => stE_rest K k c h (by omega))).symm
  · have h1 : (stR K n k k).set k (stE' K k k k + K k) = (List.range n).map (fun c => if c = k then stE' K k k k + K k else stE' K k k c) := list_set _ _ n k _ (by simp) (fun c _ h => by simp [h])
    rw [h1]
    refine (list_set _ _ n (k - 1) _ (stE_left K k (by omega)) (fun c _ h => ?_)).symm
    split
    · subst_vars; exact stE_own K _
    · exact stE_rest K k c (by omega) (by omega)
theorem stR_below (K : Nat → Int) (n k : Nat) (hk : 0 < k) : stR K n (k + 1) (k - 1) = ((stR K n k (k - 1)).set (k - 1) (stE' K k (k - 1) (k - 1) + K k)).set k (stE' K k (k - 1) k - K k) := by
  have h1 : (stR K n k (k - 1)).set (k - 1) (stE' K k (k - 1) (k - 1) + K k) = (List.range n).map (fun c => if c = k - 1 then stE' K k (k - 1) (k - 1) + K k else stE' K k (k - 1) c) := list_set _ _ n (k - 1) _ (by simp) (fun c _ h => by simp [h])
  rw [h1]
  refine (list_set _ _ n k _ (stE_right K k hk) (fun c _ h => ?_)).symm
  split
  · subst_vars; exact stE_up K k hk
  · exact stE_rest' K k c (by omega) (by omega) hk
theorem stR_same (K : Nat → Int) (n k r : Nat) (h : r ≠ k) (h' : r + 1 ≠ k) : stR K n (k + 1) r = stR K n k r := by
  unfold stR
  refine List.map_congr_left fun c _ => stE_other K k r c h h'
/-- The row as the reference lays it. -/
theorem stR_ref (K : Nat → Int) (n r : Nat) (hr : r < n) (hK : ∀ i, n ≤ i → K i = 0) : stR K n n r =
    (if r + 1 < n then (if 0 < r then ((List.replicate n 0).set r (K r + K (r + 1))).set (r - 1) (-K r) else (List.replicate n 0).set r (K r + K (r + 1))).set (r + 1) (-K (r + 1))
     else (if 0 < r then ((List.replicate n 0).set r (K r + K (r + 1))).set (r - 1) (-K r) else (List.replicate n 0).set r (K r + K (r + 1)))) := by
  have h5 := hK n (Nat.le_refl n)
  have h6 := hK (r + 1)
  by_cases a : r + 1 < n <;> by_cases b : 0 < r <;> simp only [a, b, ↓reduceIte]
  all_goals
    apply List.ext_getElem
    · simp [stR]
    · intro c h1 h2
      have hc : c < n := by simpa [stR] using h1
      simp only [stR, List.getElem_map, List.getElem_range, stE', stE, List.getElem_set, List.getElem_replicate]
      grind
/-- The stiffness of a storey, 0 above the last one. -/
def stK (fs : List Fl) (i : Nat) : Int := sumR (fun e => ((fs[i]?.getD fl0).2.2[e]?.getD el0).1) (fs[i]?.getD fl0).2.2.length
theorem stK_above {fs : List Fl} {i : Nat} (h : fs.length ≤ i) : stK fs i = 0 := by
  unfold stK
  rw [List.getElem?_eq_none h]
  rfl
theorem sumR_in {f : Nat → Int} {n : Nat} (h : ∀ i, i < n → 1 ≤ f i ∧ f i ≤ 1000) : ∀ k : Nat, k ≤ n → (k : Int) ≤ sumR f k ∧ sumR f k ≤ k * 1000
  | 0 => by simp [sumR]
  | k + 1 => fun hk => by
    have := sumR_in h k (by omega)
    have := h k (by omega)
    rw [sumR]
    push_cast
    omega
theorem stK_part {fs : List Fl} (h : (frmE fs).2 = 0) {i k : Nat} (hi : i < fs.length) (hk : k ≤ (fs[i]?.getD fl0).2.2.length) :
    (k : Int) ≤ sumR (fun e => ((fs[i]?.getD fl0).2.2[e]?.getD el0).1) k ∧ sumR (fun e => ((fs[i]?.getD fl0).2.2[e]?.getD el0).1) k ≤ k * 1000 := by
  obtain ⟨-, -, h3⟩ := flErr_ok ((frmE_ok h).2 i hi)
  exact sumR_in (fun e he => (elErr_ok ((sprE_ok h3).2 e he)).1) k hk
theorem stK_bd {fs : List Fl} (h : (frmE fs).2 = 0) {i : Nat} (hi : i < fs.length) : 0 < stK fs i ∧ stK fs i ≤ 4000 := by
  have h1 := stK_part h hi (Nat.le_refl _)
  obtain ⟨-, -, h3⟩ := flErr_ok ((frmE_ok h).2 i hi)
  have h4 := (sprE_ok h3).1
  unfold stK
  omega
theorem stK_all {fs : List Fl} (h : (frmE fs).2 = 0) (i : Nat) : 0 ≤ stK fs i ∧ stK fs i ≤ 4000 := by
  rcases Nat.lt_or_ge i fs.length with hi | hi
  · have := stK_bd h hi; omega
  · rw [stK_above hi]; omega
set_option maxRecDepth 100000 in
set_option maxHeartbeats 4000000 in
theorem Lowest_fm (x y : Int) (w : World) (hx1 : -9223372036854775807 ≤ x) (hx2 : x ≤ 9223372036854775807) (hy1 : 0 < y) (hy2 : y ≤ 9223372036854775807) :
    Calls Try.prog 75 #[.int .i64 x, .int .i64 y] w fun e w' => e = .returned (.agg #[.int .i64 (fqF x y).1, .int .i64 (fqF x y).2]) ∧ Below w.heap.size w w' := by
  have hb : ∀ o, Below w.heap.size w (w.alloc o) := fun o => (Below.refl _ _).alloc (Nat.le_refl _) _
  have hnew := alloc_new w (.cells #[.int .i64 0, .int .i64 0] 77)
  go_enter Try.func75, Try.ntmps75
  go_wp2_with fail
  refine (gcd_any x y _ (by omega) (by omega) (by omega) (by omega)).mono ?_
  rintro e w1 ⟨rfl, k, rfl⟩
  have hg0 : (0 : Int) < Int.gcd x y := by have := Int.gcd_pos_of_ne_zero_right (a := x) (b := y) (by omega); omega
  have hg1 : (Int.gcd x y : Int) ≤ 9223372036854775807 := by have := Int.gcd_le_right x hy1; omega
  obtain ⟨g, hgg⟩ : ∃ g : Int, (Int.gcd x y : Int) = g := ⟨_, rfl⟩
  have hf : fqF x y = (x.tdiv g, y.tdiv g) := by unfold fqF; rw [hgg]
  have HF := Lib.hid hf
  rw [hgg] at hg0 hg1 ⊢
  clear hf hgg
  have hg2 : (g == 0) = false := by simp; omega
  have b1 : -9223372036854775807 ≤ x.tdiv g ∧ x.tdiv g ≤ 9223372036854775807 := by
    have := Int.natAbs_tdiv_le_natAbs x g
    omega
  have b2 : -9223372036854775807 ≤ y.tdiv g ∧ y.tdiv g ≤ 9223372036854775807 := by
    have := Int.natAbs_tdiv_le_natAbs y g
    omega
  obtain ⟨b11, b12⟩ := b1
  obtain ⟨b21, b22⟩ := b2
  have hy0 : 0 ≤ y := by omega
  go_wp2_with fail
  refine Calmly.wp_region_mix 6 (.fl 0 <| .fl 1 <| .fl 2 <| .fl 3 <| .fl 4 <| .fl 5 <| .tail [6, 7]) (by kernel_rfl) (by kernel_rfl) ?_
  go_wp2_with (first | ((with_reducible refine Calmly.is_fl ?_); refine Calmly.mix_fl rfl ?_ (fun _ _ => ?_); (first | exact .move _ | exact .load _ _ | exact .fieldAddr _ _ _ (by kernel_rfl) | exact .assign _ | exact .binOp _ _ _ _ _ rfl | exact .indexAddr _ _ _ | exact .len _ _ (by kernel_rfl) | exact .field _ _ _ | exact .extract _ _ | exact .pick _ _ _ | exact .build _ _ | exact .slice _ _ _ _ _ | exact .unOp _ _ _ rfl | exact .index _ _ _ | exact .max _ _ _ rfl rfl | exact .min _ _ _ rfl rfl | exact .nilCheck _ _ rfl)) | ((with_reducible refine Calmly.is_gl ?_); refine Calmly.mix_gl rfl rfl rfl ?_; first | ((first | with_reducible refine Calmly.gl_tt ?_ (fun _ _ => ?_) | with_reducible refine Calmly.gl_ff ?_ (fun _ _ => ?_)); (first | exact .move _ | exact .load _ _ | exact .fieldAddr _ _ _ (by kernel_rfl) | exact .assign _ | exact .binOp _ _ _ _ _ rfl | exact .indexAddr _ _ _ | exact .len _ _ (by kernel_rfl) | exact .field _ _ _ | exact .extract _ _ | exact .pick _ _ _ | exact .build _ _ | exact .slice _ _ _ _ _ | exact .unOp _ _ _ rfl | exact .index _ _ _ | exact .max _ _ _ rfl rfl | exact .min _ _ _ rfl rfl | exact .nilCheck _ _ rfl)) | with_reducible refine Calmly.gl_tf (fun _ _ => ?_) | with_reducible refine Calmly.gl_ft (fun _ _ => ?_)) | ((with_reducible refine Calmly.is_eff ?_); refine Calmly.mix_eff rfl (fun _ _ => ?_)) | ((with_reducible refine Calmly.is_gf ?_); refine Calmly.mix_gf rfl rfl rfl ?_; first | with_reducible refine Calmly.gf_tt (fun _ _ => ?_) | with_reducible refine Calmly.gf_ff (fun _ _ => ?_) | with_reducible refine Calmly.gf_tf (kept_of hk) (fun _ _ => ?_) | with_reducible refine Calmly.gf_ft (kept_of hk) (fun _ _ => ?_)) | ((with_reducible refine Calmly.is_tail ?_); first | refine Calmly.mix_tail_nil ?_ | refine Calmly.mix_tail rfl (fun _ _ => ?_)) | ((with_reducible refine Calmly.is_kept ?_); refine ⟨kept_of hk, ?_⟩) | (with_reducible refine Calmly.mix_alt ?_ ?_))
  refine bodyPost_ret (v := .agg #[.int .i64 (x.tdiv g), .int .i64 (y.tdiv g)]) (by simp [results, Try.results75, go_sem]) rfl ⟨by rw [HF.out], ?_⟩
  exact ((below_drewN ((Below.refl _ _).alloc (Nat.le_refl _) _) k).drew.setCell (by simp) _).setCell (by simp) _
end Go.Proofs.Ytaiikekgckjdeaa

namespace Go.Proofs.Ytaiikekgckjdeaa
open Go.RowKit
attribute [local go_sem] Oper.semAt_some
open Calmly (Kept)

set_option maxRecDepth 100000 in
set_option maxHeartbeats 2000000 in
theorem stiffnesses_any (a : Option Addr) (n c : Nat) (raw : List FlR) (fs : List Fl) (w : World) (h1 : FrV w a n c raw fs) (hz : (frmE fs).2 = 0) :
    Calls Try.prog 124 #[.agg #[.slice a n c]] w fun e w' => ∃ av cv, e = .returned (.slice av n cv) ∧ OwI w' w.heap.size av n cv ((List.range n).map (stK fs)) ∧ Below w.heap.size w w' := by
  have hn := h1.n_
  have m1 := h1.row.max
  have c1 := h1.row.cap
  have hn5 : n ≤ 5 := by have := (frmE_ok hz).1; omega
  have HN := Lib.hid hn
  have HZ := Lib.hid hz
  clear hn hz
  have y0 := alloc_new w (.cells #[.slice a n c] 24)
  have BW : Below w.heap.size w (w.alloc (.cells #[.slice a n c] 24)) := (Below.refl _ _).alloc (Nat.le_refl _) _
  have f0 := cell_block y0 0
  go_enter Try.func124, Try.ntmps124
  go_wp2_with fail
  generalize w.alloc (.cells #[.slice a n c] 24) = W at *
  clear f0 y0
  go_loopw [3, 12] (fun v i wr => ∃ (k : Nat) (av : Option Addr) (cv : Nat), k ≤ n ∧ i = .int .i64 k ∧ v = .slice av k cv ∧ OwI wr w.heap.size av k cv ((List.range k).map (stK fs)) ∧ Below w.heap.size w wr) (fun _ i _ => n - (intOf i).toNat)
  case atStart => exact ⟨0, _, _, by omega, rfl, rfl, OwI.nil _ _, BW⟩
  case round =>
    clear BW
    obtain ⟨k, av, cv, hk, rfl, rfl, hO, hb⟩ := hrel
    have o1 := hO.si.max
    have o2 := hO.si.cap
    by_cases hlt : k < n
    · obtain ⟨cb, co, rfl, hcc⟩ := (h1.row.keep hb).at_ (by omega)
      obtain ⟨q0, q1, q2⟩ := hcc k hlt
      obtain ⟨-, -, hsel⟩ := (h1.keep hb).fl k (by rw [← HN.out]; exact hlt)
      have hpt := fun e he => stK_part HZ.out (i := k) (k := e) (by rw [← HN.out]; exact hlt) he
      have hel := (sprE_ok (flErr_ok ((frmE_ok HZ.out).2 k (by rw [← HN.out]; exact hlt))).2.2).1.2
      have hst : stK fs k = sumR (fun e => ((fs[k]?.getD fl0).2.2[e]?.getD el0).1) (fs[k]?.getD fl0).2.2.length := rfl
      obtain ⟨rr, hrr⟩ : ∃ rr, raw[k]?.getD flr0 = rr := ⟨_, rfl⟩
      obtain ⟨ff, hff⟩ : ∃ ff, fs[k]?.getD fl0 = ff := ⟨_, rfl⟩
      obtain ⟨x0, x1, ⟨u1, u2, u3⟩⟩ := rr
      rw [hff] at hsel hpt hel hst
      rw [hrr] at q0 q1 q2 hsel
      clear hrr hcc hff
      dsimp only [hv] at q0 q1 q2 hsel
      have hi1 : (k : Int) < (n : Int) := by omega
      have hi0 : (0 : Int) ≤ (k : Int) := by omega
      have hlen := hsel.len
      have HLE := Lib.hid hlen
      have hu4 : u2 ≤ 4 := by omega
      have HST := Lib.hid hst
      have HPT := Lib.hid hpt
      have um := hsel.max
      have uc := hsel.cap
      clear hlen hel hst hpt
      have y8 := alloc_new wr (.cells #[.int .i64 x0, .int .i64 x1, .slice u1 u2 u3] 130)
      have f8 := cell_block y8 2
      have BA : Below wr.heap.size wr (wr.alloc (.cells #[.int .i64 x0, .int .i64 x1, .slice u1 u2 u3] 130)) := (Below.refl _ _).alloc (Nat.le_refl _) _
      go_wp2_with fail
      have hO2 := hO.keep BA
      have hsel2 := hsel.keep BA
      have hb2 := hb.trans (BA.mono hb.size)
      generalize wr.alloc (.cells #[.int .i64 x0, .int .i64 x1, .slice u1 u2 u3] 130) = X at *
      clear y8 f8 q0 q1 q2 hO hsel hb BA
      go_loopw [6, 19] (fun s j wr => ∃ e : Nat, e ≤ u2 ∧ j = .int .i64 e ∧ s = .int .i64 (sumR (fun e => (ff.2.2[e]?.getD el0).1) e) ∧ Below X.heap.size X wr) (fun _ j _ => u2 - (intOf j).toNat)
      case atStart => exact ⟨0, by omega, rfl, rfl, Below.refl _ _⟩
      case round =>
        obtain ⟨e, he, rfl, rfl, hb3⟩ := hrel
        by_cases hlt2 : e < u2
        · obtain ⟨eb, eo, rfl, hec⟩ := (hsel2.keep hb3).at_ (by omega)
          obtain ⟨r0, r1, r2⟩ := hec e hlt2
          have hp1 := HPT.out e (by rw [← HLE.out]; omega)
          have hp2 := HPT.out (e + 1) (by rw [← HLE.out]; omega)
          have hs1 : sumR (fun e => (ff.2.2[e]?.getD el0).1) (e + 1) = sumR (fun e => (ff.2.2[e]?.getD el0).1) e + (ff.2.2[e]?.getD el0).1 := rfl
          rw [hs1] at hp2
          obtain ⟨S, hS⟩ : ∃ S, sumR (fun e => (ff.2.2[e]?.getD el0).1) e = S := ⟨_, rfl⟩
          rw [hS] at hp1 hp2 ⊢
          obtain ⟨el, hel⟩ : ∃ x, ff.2.2[e]?.getD el0 = x := ⟨_, rfl⟩
          rw [hS] at hs1
          rw [hel] at r0 r1 r2 hp2 hs1
          obtain ⟨v1, v2, v3⟩ := el
          dsimp only at r0 r1 r2 hp2 hs1
          have HS1 := Lib.hid hs1
          clear hs1 hel hS hec
          have hj1 : (e : Int) < (u2 : Int) := by omega
          have hj0 : (0 : Int) ≤ (e : Int) := by omega
          have BE : Below wr.heap.size wr (wr.alloc (.cells #[.int .i64 v1, .int .i64 v2, .bool v3] 152)) := (Below.refl _ _).alloc (Nat.le_refl _) _
          have z0 := cell_block (alloc_new wr (.cells #[.int .i64 v1, .int .i64 v2, .bool v3] 152)) 0
          go_wp2_with fail
          go_roundw
          case rel => exact ⟨e + 1, by omega, by go_num, by rw [HS1.out], hb3.trans (BE.mono hb3.size)⟩
          case measure => simp [intOf]; omega
        · obtain rfl : u2 = e := by omega
          have hle : ¬ (u2 : Int) < (u2 : Int) := by omega
          have hO3 := hO2.keep hb3
          have hbs := hb2.size
          have hbs3 := hb3.size
          have hst3 : sumR (fun e => (ff.2.2[e]?.getD el0).1) u2 = stK fs k := by rw [HST.out, HLE.out]
          rw [hst3]
          have BW3 := hb2.trans (hb3.mono hb2.size)
          clear hst3 hlt2 he
          go_wp2_with (first | (at_builtin; refine appI rfl _ _ rfl hO3 rfl rfl (by omega) (by omega) ?_; intro a3 c3 w7 ho5 hb5 hs5))
          go_roundw
          case rel => exact ⟨k + 1, a3, c3, by omega, by go_num, by simp, by rw [List.range_succ, List.map_append]; exact ho5, BW3.trans (hb5.mono (by omega))⟩
          case measure => simp [intOf]; omega
    · obtain rfl : n = k := by omega
      have hle : ¬ (n : Int) < (n : Int) := by omega
      clear hlt hk
      go_wp2_with fail
      go_ret
      exact ⟨av, cv, rfl, hO, hb⟩
end Go.Proofs.Ytaiikekgckjdeaa

namespace Go.Proofs.Ytaiikekgckjdeaa
open Go.RowKit
attribute [local go_sem] Oper.semAt_some
open Calmly (Kept)

theorem ls_map (l : List LsR) : l.flatMap encLsR = l.map hv := by
  induction l with
  | nil => rfl
  | cons x l ih => rw [List.flatMap_cons, ih]; rfl
/-- 'make([][]int, n)'. -/
theorem makeL1 {ops : Array Oper} {rest : List Oper} {o : Oper} {a : Act} {Q : Exit → Act → World → Prop} {w : World} {L : Int} {n : Nat} (hg : o.guard = none) (l c : Operand)
    (hop : o.op = Op.makeSlice 114 l c) (hl : a.eval l = .int .i64 L) (hc : a.eval c = .int .i64 L) (hL : L = (n : Int)) (hn : n ≤ 1000000)
    (hK : ∀ w', OwLsR w' w.heap.size (some ⟨w.heap.size, 0, none⟩) n n (List.replicate n hd0) → Below w.heap.size w w' → wpList Try.prog ops Q rest (a.put o.dst (.slice (some ⟨w.heap.size, 0, none⟩) n n)) w') :
    wpList Try.prog ops Q (o :: rest) a w := by
  obtain ⟨i0, hi, hz0, hz1, hz2⟩ := info_parts Try.info_lsr
  refine wpList_make_full w hg l c _ hop w.heap.size _ i0 (.slice none 0 0) 1 Try.underlying114 hi hz0 hz1 .i64 .i64 L L n hl hc hL hL (by rw [hz2]; omega) (by unfold maxLen; omega) (Nat.le_refl _) ?_
  intro w' ho hgr
  refine hK w' ?_ (grown_below hgr (Nat.le_refl _) (fun k hk => by cases hk))
  unfold OwLsR
  rw [ls_map]
  rw [Nat.mul_one, show (Value.slice none 0 0).cells = #[Value.slice none 0 0] from rfl, toList_madeCells_one] at ho
  simpa [hv, hd0] using ho

/-- A matrix of the call's own, of which so many rows are made. -/
structure MaO (w : World) (B g n k : Nat) (ad : Nat → Nat) (f : Nat → List Int) : Prop where
  hd : OwLsR w B (some ⟨g, 0, none⟩) n n ((List.range n).map (fun i => if i < k then ((some ⟨ad i, 0, none⟩, n, n) : Hd) else hd0))
  row : ∀ i, i < k → OwI w B (some ⟨ad i, 0, none⟩) n n (f i)
  ne : ∀ i j, i < k → j < i → ad j < ad i
theorem MaO.keep {w w' : World} {B g n k : Nat} {ad : Nat → Nat} {f : Nat → List Int} (h : MaO w B g n k ad f) (hb : Below w.heap.size w w') : MaO w' B g n k ad f := ⟨h.hd.keep hb, fun i hi => (h.row i hi).keep hb, h.ne⟩
theorem MaO.congr {w : World} {B g n k : Nat} {ad : Nat → Nat} {f f' : Nat → List Int} (h : MaO w B g n k ad f) (hf : ∀ i, i < k → f i = f' i) : MaO w B g n k ad f' := ⟨h.hd, fun i hi => by rw [← hf i hi]; exact h.row i hi, h.ne⟩
theorem MaO.start {w : World} {B g n : Nat} (h : OwLsR w B (some ⟨g, 0, none⟩) n n (List.replicate n hd0)) (ad : Nat → Nat) (f : Nat → List Int) : MaO w B g n 0 ad f := by
  refine ⟨?_, fun i hi => by omega, fun i j hi => by omega⟩
  have e : (List.range n).map (fun i => if i < 0 then ((some ⟨ad i, 0, none⟩, n, n) : Hd) else hd0) = List.replicate n hd0 := by
    apply List.ext_getElem
    · simp
    · intro i h1 h2
      simp
  rw [e]
  exact h
theorem MaO.cell {w : World} {B g n k : Nat} {ad : Nat → Nat} {f : Nat → List Int} (h : MaO w B g n k ad f) {i : Nat} (hi : i < k) (hn : i < n) : w.cell? ⟨g, i, none⟩ = some (.slice (some ⟨ad i, 0, none⟩) n n) := by
  have := World.ownsRow.cellAt h.hd i (by omega)
  rw [this, ls_map]
  simp [hi, hn, hv]
theorem MaO.free {w w' : World} {B g n k : Nat} {ad : Nat → Nat} {f : Nat → List Int} (h : MaO w B g n k ad f) (hb : Below w.heap.size w w') (j : Nat) : w'.frozen? ⟨g, j, none⟩ = false := World.ownsRow.frozenAt (h.hd.keep hb) j
theorem MaO.cell0 {w w' : World} {B g n k : Nat} {ad : Nat → Nat} {f : Nat → List Int} (h : MaO w B g n k ad f) (hb : Below w.heap.size w w') {i : Nat} (hi : k ≤ i) (hn : i < n) : w'.cell? ⟨g, i, none⟩ = some (.slice none 0 0) := by
  have := World.ownsRow.cellAt (h.hd.keep hb) i (by omega)
  rw [this, ls_map]
  simp [show ¬ i < k by omega, hn, hv, hd0]
theorem MaO.blkH {w : World} {B g n k : Nat} {ad : Nat → Nat} {f : Nat → List Int} (h : MaO w B g n k ad f) : BlkT w g 25 := (In.of_owns h.hd).blk g 0 rfl
theorem MaO.blkR {w : World} {B g n k : Nat} {ad : Nat → Nat} {f : Nat → List Int} (h : MaO w B g n k ad f) {i : Nat} (hi : i < k) : BlkT w (ad i) 3 := (In.of_owns (h.row i hi)).blk (ad i) 0 rfl
theorem MaO.make {w w' : World} {B g n k : Nat} {ad : Nat → Nat} {f : Nat → List Int} (h : MaO w B g n k ad f) (hk : k < n) {pg : Nat} {r0 : List Int} (ho : OwI w' w.heap.size (some ⟨pg, 0, none⟩) n n r0) (hb : Below w.heap.size w w') :
    MaO (w'.setCell ⟨g, k, none⟩ (.slice (some ⟨pg, 0, none⟩) n n)) B g n (k + 1) (fun i => if i = k then pg else ad i) (fun i => if i = k then r0 else f i) ∧ Below B w (w'.setCell ⟨g, k, none⟩ (.slice (some ⟨pg, 0, none⟩) n n)) := by
  have h' := h.keep hb
  obtain ⟨hg1, hg2⟩ := World.ownsRow.lt h.hd g rfl
  obtain ⟨hp1, hp2⟩ := ho.lt
  have hT : BlkT w' pg 3 := (In.of_owns ho).blk pg 0 rfl
  have hne : ∀ b, b ≠ g → (w'.setCell ⟨g, k, none⟩ (.slice (some ⟨pg, 0, none⟩) n n)).heap[b]? = w'.heap[b]? := fun b hb => Below.heap_setCell _ _ _ _ hb
  refine ⟨⟨?_, fun i hi => ?_, fun i j hi hj => ?_⟩, (hb.mono (by omega)).setCell (p := ⟨g, k, none⟩) (by show B ≤ g; omega) _⟩
  · have := (World.ownsRow.stored h'.hd k (hv (some ⟨pg, 0, none⟩, n, n))).1
    rw [ls_map, ← List.map_set, list_set _ (fun i => if i < k + 1 then ((some ⟨if i = k then pg else ad i, 0, none⟩, n, n) : Hd) else hd0) n k _ (by simp) (fun c _ hc => by
      have e1 : (c < k + 1) = (c < k) := by simp only [eq_iff_iff]; omega
      simp only [e1, hc, if_false]), ← ls_map] at this
    exact this
  · by_cases e : i = k
    · subst e
      simp only [if_true]
      exact owns_same (owns_lower ho (by omega)) (hne pg (BlkT.ne hT h'.blkH (by decide)))
    · simp only [e, if_false]
      exact owns_same (h'.row i (by omega)) (hne _ (BlkT.ne (h'.blkR (by omega)) h'.blkH (by decide)))
  · have hlt : ∀ i, i < k → ad i < w.heap.size := fun i hi => (h.row i hi).lt.2
    by_cases e : i = k
    · subst e
      have := hlt j hj
      simp only [if_true, show ¬ j = i by omega, if_false]
      omega
    · have := h.ne i j (by omega) hj
      simp only [e, if_false, show ¬ j = k by omega]
      exact this
theorem MaO.stored {w : World} {B g n : Nat} {ad : Nat → Nat} {f : Nat → List Int} (h : MaO w B g n n ad f) {r : Nat} (hr : r < n) (j : Nat) (v : Int) :
    MaO (w.setCell ⟨ad r, j, none⟩ (.int .i64 v)) B g n n ad (fun i => if i = r then (f r).set j v else f i) ∧ Below B w (w.setCell ⟨ad r, j, none⟩ (.int .i64 v)) := by
  have hne : ∀ b, b ≠ ad r → (w.setCell ⟨ad r, j, none⟩ (.int .i64 v)).heap[b]? = w.heap[b]? := fun b hb => Below.heap_setCell _ _ _ _ hb
  obtain ⟨h1, h2⟩ := (h.row r hr).stored j v
  refine ⟨⟨owns_same h.hd (hne g (BlkT.ne h.blkH (h.blkR hr) (by decide))), fun i hi => ?_, h.ne⟩, h2⟩
  by_cases e : i = r
  · subst e
    simp only [if_true]
    exact h1
  · simp only [e, if_false]
    refine owns_same (h.row i hi) (hne _ ?_)
    rcases Nat.lt_or_gt_of_ne e with h3 | h3
    · have := h.ne r i hr h3; omega
    · have := h.ne i r hi h3; omega
theorem MaO.ll {w : World} {B g n : Nat} {ad : Nat → Nat} {f : Nat → List Int} (h : MaO w B g n n ad f) : ∃ raw, LlV w (some ⟨g, 0, none⟩) n n raw ((List.range n).map f) := by
  refine ⟨_, h.hd.sr, by simp, fun i hi => ?_⟩
  have hi' : i < n := by simpa using hi
  simp only [List.getElem?_map, List.getElem?_range hi', Option.map_some, Option.getD_some, hi', if_true]
  exact (h.row i hi').si
/-- The stiffness of a frame. -/
def stMx (fs : List Fl) : List (List Int) := (List.range fs.length).map (stR (stK fs) fs.length fs.length)
theorem stE_bd {K : Nat → Int} (h : ∀ i, 0 ≤ K i ∧ K i ≤ 4000) (k r c : Nat) : -8000 ≤ stE' K k r c ∧ stE' K k r c ≤ 8000 := by
  have h1 := h r
  have h2 := h (r + 1)
  have h3 := h c
  unfold stE' stE
  grind
set_option maxRecDepth 100000 in
set_option maxHeartbeats 4000000 in
theorem StiffnessOf_any (a : Option Addr) (n c : Nat) (raw : List FlR) (fs : List Fl) (w : World) (h1 : FrV w a n c raw fs) :
    Calls Try.prog 66 #[.agg #[.slice a n c]] w fun e w' => ∃ ka kn kc, e = .returned (.tuple #[.slice ka kn kc, .int .i64 (frmE fs).2]) ∧ ((frmE fs).2 ≠ 0 → kn = 0) ∧ ((frmE fs).2 = 0 → ∃ raw, LlV w' ka kn kc raw (stMx fs)) ∧ Below w.heap.size w w' := by
  have hn := h1.n_
  have m1 := h1.row.max
  have c1 := h1.row.cap
  have HN := Lib.hid hn
  clear hn
  obtain ⟨I, E, hR⟩ : ∃ I E, frmE fs = (I, E) := ⟨_, _, rfl⟩
  rw [hR]
  dsimp only
  have HR := Lib.hid hR
  clear hR
  have y0 := alloc_new w (.cells #[.slice a n c] 24)
  have BW : Below w.heap.size w (w.alloc (.cells #[.slice a n c] 24)) := (Below.refl _ _).alloc (Nat.le_refl _) _
  have f9 := cell_block y0 0
  go_enter Try.func66, Try.ntmps66
  go_wp2_with fail
  generalize w.alloc (.cells #[.slice a n c] 24) = W at *
  refine (CheckFrame_any a n c raw fs W (h1.keep BW)).mono ?_
  rintro e w1 ⟨rfl, hs⟩
  rw [HR.out]
  dsimp only
  replace y0 := blk_keep y0 hs
  have B1 := BW.trans (hs.mono BW.size)
  clear f9 hs BW
  have f0 := cell_block y0 0
  by_cases hz : E = 0
  case neg =>
    have b1 : (E != 0) = true := by simpa using hz
    have HZ := Lib.hid hz
    clear hz
    go_wp2_with fail
    refine bodyPost_ret (v := .tuple #[.slice none 0 0, .int .i64 E]) (by simp [results, Try.results66, go_sem]) rfl ⟨none, 0, 0, rfl, fun _ => rfl, fun h => absurd h HZ.out, B1⟩
  case pos =>
    subst hz
    have hz : (frmE fs).2 = 0 := by rw [HR.out]
    have hn5 : 0 < n ∧ n ≤ 5 := by have := (frmE_ok hz).1; have := HN.out; omega
    have HZ := Lib.hid hz
    clear hz
    obtain ⟨hn0, hn6⟩ := hn5
    go_wp2_with fail
    refine (stiffnesses_any a n c raw fs _ (h1.keep B1) HZ.out).mono ?_
    rintro e w2 ⟨ka, kc, rfl, hk, hs⟩
    dsimp only
    have B2 := B1.trans (hs.mono B1.size)
    clear f0 y0 hs B1
    have km := hk.si.max
    have kcap := hk.si.cap
    have hn9 : n ≤ 1000000 := by omega
    go_wp2_with (first | ((with_reducible refine makeL1 (n := n) ?g1 (.tmp 22) (.tmp 22) ?g2 ?g3 ?g4 rfl ?g5 ?g6); (case g2 => exact rfl); (case g1 => exact rfl); (case g3 => exact rfl); (case g4 => exact rfl); (case g5 => omega); intro w3 ho3 hb3))
    have hM := MaO.start ho3 (fun _ => 0) (fun _ => List.replicate n 0)
    obtain ⟨g, hg⟩ : ∃ g, w2.heap.size = g := ⟨_, rfl⟩
    rw [hg] at hM hb3 ⊢
    have HG := Lib.hid hg
    have hwg : w.heap.size ≤ g := by have := B2.size; omega
    clear ho3 hg
    go_loopw [26] (fun i wr => ∃ (k : Nat) (ad : Nat → Nat), k ≤ n ∧ i = .int .i64 k ∧ MaO wr g g n k ad (fun _ => List.replicate n 0) ∧ Below g w2 wr) (fun i _ => n - (intOf i).toNat)
    case atStart => exact ⟨0, _, by omega, rfl, hM, hb3⟩
    case round =>
      clear hM hb3
      obtain ⟨k, ad, hk', rfl, hM, hb⟩ := hrel
      by_cases hlt : k < n
      · have hi1 : (k : Int) < (n : Int) := by omega
        have hi0 : (0 : Int) ≤ (k : Int) := by omega
        go_wp2_with (first | ((with_reducible refine makeI1 (n := n) ?e1 (.tmp 32) (.tmp 32) ?e2 ?e3 ?e4 rfl ?e5 ?e6); (case e2 => exact rfl); (case e1 => exact rfl); (case e3 => exact rfl); (case e4 => exact rfl); (case e5 => omega); intro w7 ho7 hb7; have fz := hM.free hb7 k; have fc := hM.cell0 hb7 (Nat.le_refl k) hlt))
        obtain ⟨hM2, hb8⟩ := hM.make hlt ho7 hb7
        go_roundw
        case rel => exact ⟨k + 1, _, by omega, by go_num, hM2.congr (fun i _ => by split <;> rfl), hb.trans hb8⟩
        case measure => simp [intOf]; omega
      · obtain rfl : n = k := by omega
        have hle : ¬ (n : Int) < (n : Int) := by omega
        go_wp2_with fail
        go_loopw [38] (fun i wr => ∃ k : Nat, k ≤ n ∧ i = .int .i64 k ∧ MaO wr g g n n ad (stR (stK fs) n k) ∧ Below g w2 wr) (fun i _ => n - (intOf i).toNat)
        case atStart => exact ⟨0, by omega, rfl, hM.congr (fun i _ => (stR_zero _ _ _).symm), hb⟩
        case round =>
          clear hM hb hk' hlt
          obtain ⟨k, hk', rfl, hM, hb⟩ := hrel
          by_cases hlt : k < n
          · have hb' : Below w2.heap.size w2 wr := by rw [HG.out]; exact hb
            obtain ⟨kb, ko, rfl, hkc⟩ := (hk.si.keep hb').at_ (by omega)
            have z0 := hkc k hlt
            rw [show ((List.range n).map (stK fs))[k]?.getD 0 = stK fs k by simp [hlt]] at z0
            have x0 := hM.cell hlt hlt
            have x1 := (hM.row k hlt).cell k hlt
            have x2 := (hM.row k hlt).free k
            rw [stR_at _ _ _ _ hlt] at x1
            obtain ⟨K, hK⟩ : ∃ K, stK fs k = K := ⟨_, rfl⟩
            have hKb := stK_all HZ.out k
            have bd := stE_bd (stK_all HZ.out)
            have b1 := bd k k k
            obtain ⟨X1, hX1⟩ : ∃ X, stE' (stK fs) k k k = X := ⟨_, rfl⟩
            rw [hX1] at x1 b1
            rw [hK] at z0 hKb
            have hi1 : (k : Int) < (n : Int) := by omega
            have hi0 : (0 : Int) ≤ (k : Int) := by omega
            have HB' := Lib.hid hb'
            clear hkc hb'
            obtain ⟨hM1, hB1⟩ := hM.stored hlt k (X1 + K)
            by_cases hk0 : k = 0
            · have c0 : ¬ (0 : Int) < (k : Int) := by omega
              have hM9 : MaO (wr.setCell ⟨ad k, k, none⟩ (.int .i64 (X1 + K))) g g n n ad (stR (stK fs) n (k + 1)) := by
                refine hM1.congr (fun i _ => ?_)
                split
                · subst_vars; rw [stR_own, if_pos rfl]
                · exact (stR_same _ _ _ _ (by omega) (by omega)).symm
              have HM9 := Lib.hid hM9
              have HB1 := Lib.hid (hb.trans hB1)
              clear bd hX1 hK hM1 hB1 hk0 hM9 hM hb
              go_wp2_with fail
              go_roundw
              case rel => exact ⟨k + 1, by omega, by go_num, HM9.out, HB1.out⟩
              case measure => simp [intOf]; omega
            · have c0 : (0 : Int) < (k : Int) := by omega
              have c7 : ((k : Int) - 1).toNat = k - 1 := by omega
              have c8 : (k : Int) - 1 < (n : Int) := by omega
              have c9 : 0 ≤ (k : Int) - 1 := by omega
              have hlt1 : k - 1 < n := by omega
              have ne1 : ¬ k - 1 = k := by omega
              have ne2 : ¬ k = k - 1 := by omega
              have r2 : OwI (wr.setCell ⟨ad k, k, none⟩ (.int .i64 (X1 + K))) g (some ⟨ad (k - 1), 0, none⟩) n n (stR (stK fs) n k (k - 1)) := by
                have := hM1.row (k - 1) hlt1
                simpa only [ne1, if_false] using this
              have y0 := hM1.cell hlt1 hlt1
              have y1 := r2.cell (k - 1) hlt1
              have y2 := r2.free (k - 1)
              rw [stR_at _ _ _ _ hlt1] at y1
              have b2 := bd k (k - 1) (k - 1)
              obtain ⟨X2, hX2⟩ : ∃ X, stE' (stK fs) k (k - 1) (k - 1) = X := ⟨_, rfl⟩
              rw [hX2] at y1 b2
              obtain ⟨hM2, hB2⟩ := hM1.stored hlt1 (k - 1) (X2 + K)
              have r3 := hM2.row k hlt
              simp only [ne1, ne2, if_false, if_true] at r3
              have u0 := hM2.cell hlt hlt
              have u1 := r3.cell (k - 1) hlt1
              have u2 := r3.free (k - 1)
              rw [List.getElem?_set_ne (by omega), stR_at _ _ _ _ hlt1] at u1
              have b3 := bd k k (k - 1)
              obtain ⟨X3, hX3⟩ : ∃ X, stE' (stK fs) k k (k - 1) = X := ⟨_, rfl⟩
              rw [hX3] at u1 b3
              obtain ⟨hM3, hB3⟩ := hM2.stored hlt (k - 1) (X3 - K)
              have r4 := hM3.row (k - 1) hlt1
              simp only [ne1, ne2, if_false, if_true] at r4
              have v0 := hM3.cell hlt1 hlt1
              have v1 := r4.cell k hlt
              have v2 := r4.free k
              rw [List.getElem?_set_ne (by omega), stR_at _ _ _ _ hlt] at v1
              have b4 := bd k (k - 1) k
              obtain ⟨X4, hX4⟩ : ∃ X, stE' (stK fs) k (k - 1) k = X := ⟨_, rfl⟩
              rw [hX4] at v1 b4
              obtain ⟨hM4, hB4⟩ := hM3.stored hlt1 k (X4 - K)
              have HM9 := Lib.hid (hM4.congr (f' := stR (stK fs) n (k + 1)) (fun i _ => by
                by_cases e1 : i = k
                · subst e1
                  simp only [ne1, ne2, if_false, if_true]
                  rw [stR_own, if_neg (by omega), hX1, hX3, hK]
                · by_cases e2 : i = k - 1
                  · subst e2
                    simp only [ne1, ne2, if_false, if_true]
                    rw [stR_below _ _ _ (by omega), hX2, hX4, hK]
                  · simp only [e1, e2, if_false]
                    exact (stR_same _ _ _ _ (by omega) (by omega)).symm))
              have HB9 := Lib.hid ((((hb.trans hB1).trans hB2).trans hB3).trans hB4)
              clear bd hX1 hX2 hX3 hX4 hK hM hM1 hM2 hM3 hM4 hB1 hB2 hB3 hB4 r2 r3 r4 hb hk0 ne1 ne2 hlt1
              go_wp2_with fail
              go_roundw
              case rel => exact ⟨k + 1, by omega, by go_num, HM9.out, HB9.out⟩
              case measure => simp [intOf]; omega
          · obtain rfl : n = k := by omega
            clear hlt hk'
            go_wp2_with fail
            refine bodyPost_ret (v := .tuple #[.slice (some ⟨g, 0, none⟩) n n, .int .i64 0]) (by simp [results, Try.results66, go_sem]) rfl ⟨some ⟨g, 0, none⟩, n, n, by rfl, ?_, B2.trans (hb.mono hwg)⟩
            rw [stMx, ← HN.out]
            exact hM.ll
end Go.Proofs.Ytaiikekgckjdeaa

namespace Go.Proofs.Ytaiikekgckjdeaa
open Go.RowKit Go.Shelf
attribute [local go_sem] Oper.semAt_some
open Calmly (Kept)

theorem szdErr_any (i v : Int) (w : World) : Calls Try.prog 125 #[.int .i64 i, .int .i64 v] w fun e w' => e = .returned (.int .i64 (unlessE (szd v 1000000) 2)) ∧ Below w.heap.size w w' := by
  go_enter Try.func125, Try.ntmps125
  go_wp2_with fail
  refine (dSized_any v 1000000 _ (by omega) (by omega)).mono ?_
  rintro e w1 ⟨rfl, rfl⟩
  go_wp2_with fail
  refine (dUnless_any _ 2 _).mono ?_
  rintro e w1 ⟨rfl, rfl⟩
  go_wp2_with fail
  go_ret
  exact ⟨rfl, Below.refl _ _⟩
theorem backward_any (a : Option Addr) (n c : Nat) (w : World) : Calls Try.prog 126 #[.slice a n c] w fun e w' =>
    e = .returned (.func (.func 143) #[] #[.pointer (some ⟨w.heap.size, 0, none⟩)]) ∧ w' = w.alloc (.cells #[.slice a n c] 25) := by
  go_enter Try.func126, Try.ntmps126
  go_wp2_with fail
  go_ret
  exact ⟨rfl, rfl⟩
set_option maxRecDepth 100000 in
set_option maxHeartbeats 2000000 in
theorem backward_onX (w : World) (pb : Nat) (a : Option Addr) (n c : Nat) (xs : List Int) (L : Nat → Prop) (hpb : w.heap[pb]? = some (.cells #[.slice a n c] 25)) (h1 : SI w a n c xs) (k1 : ¬ L pb) (k3 : ∀ b o, 0 < n → a = some ⟨b, o, none⟩ → ¬ L b) (ky : Nat) :
    OnOnX Try.prog 143 #[.pointer (some ⟨pb, 0, none⟩)] (fun i : Fin n => #[.int .i64 (i.val : Int), .int .i64 (xs[i.val]?.getD 0)]) (Keeps L) (fun pre x => x.val + pre.length + 1 = n) (fun l => l.length = n) n ky w := by
  intro li J Jx W hW hJ hJx hY hJ0
  have hs := hW.size
  have HY := Lib.hid hY
  have HJ := Lib.hid hJ
  have m1 := h1.max
  have cc1 := h1.cap
  clear hY hJ
  have p1 := blk_keep hpb hW
  have q1 : SI W a n c xs := h1.keep hW
  have f0 := cell_block p1 0
  go_enter Try.func143, Try.ntmps143
  go_wp2_with fail
  go_loopw [3] (fun i wr => ∃ k : Nat, k ≤ n ∧ i = .int .i64 ((n : Int) - 1 - (k : Int)) ∧ (∃ pre : List (Fin n), pre.length = k ∧ J pre wr) ∧ Keeps L W wr) (fun i _ => (intOf i + 1).toNat)
  case atStart => exact ⟨0, by omega, by go_num, ⟨[], rfl, hJ0⟩, Keeps.refl _ _⟩
  case round =>
    clear hJ0 f0
    obtain ⟨k, hk, rfl, ⟨pre, hpre, hJp⟩, hkp⟩ := hrel
    have HP := Lib.hid hpre
    clear hpre
    replace q1 : SI wr a n c xs := hkp.sl q1 k3
    replace p1 := hkp.blk k1 p1
    have f0 := cell_block p1 0
    by_cases hlt : k < n
    · obtain ⟨j, hj⟩ : ∃ j, j + k + 1 = n := ⟨n - 1 - k, by omega⟩
      have hjj : (n : Int) - 1 - (k : Int) = (j : Int) := by omega
      rw [hjj]
      obtain ⟨b1, o1, rfl, hc1⟩ := q1.at_ (by omega)
      have y0 := hc1 j (by omega)
      clear hc1
      have hi1 : (j : Int) < (n : Int) := by omega
      have hi0 : (0 : Int) ≤ (j : Int) := by omega
      obtain ⟨x, hx⟩ : ∃ x : Fin n, x.val = j := ⟨⟨j, by omega⟩, rfl⟩
      obtain ⟨fn, tmps, assign, body, hy, hR⟩ := HY.out pre x wr hJp (by have := HP.out; omega) (by have := HP.out; omega)
      obtain ⟨v, hv⟩ : ∃ v, xs[j]?.getD 0 = v := ⟨_, rfl⟩
      rw [hx, hv] at hy
      rw [hv] at y0
      have HJJ := Lib.hid hjj
      have HKJ := Lib.hid hj
      clear hv hjj hj hx hlt hk
      refine (wpIn_wide (n := 5)).1 ?_
      gi_wp2
      refine (round_wide' hR).mono ?_
      rintro e W5 (⟨rfl, hJ5, hk5⟩ | ⟨rfl, hJ5⟩)
      · gi_wp2
        go_roundw
        case rel => exact ⟨k + 1, by have := HKJ.out; omega, by rw [show (n : Int) - 1 - ((k + 1 : Nat) : Int) = (j : Int) - 1 by have := HKJ.out; omega], ⟨pre ++ [x], by rw [List.length_append, HP.out]; rfl, hJ5⟩, hkp.trans hk5⟩
        case measure => simp [intOf]
      · gi_wp2
        refine bodyPost_ret (results_none rfl _ _ _) rfl ?_
        exact ⟨⟨_, rfl⟩, .inr ⟨_, hJ5⟩⟩
    · obtain rfl : n = k := by omega
      have hz : (n : Int) - 1 - (n : Int) = -1 := by omega
      rw [hz]
      go_wp2_with fail
      go_end0
      exact ⟨⟨_, rfl⟩, .inl ⟨pre, HP.out, hJp⟩⟩
end Go.Proofs.Ytaiikekgckjdeaa

namespace Go.Proofs.Ytaiikekgckjdeaa
open Go.RowKit
attribute [local go_sem] Oper.semAt_some
open Calmly (Kept)

set_option maxRecDepth 100000 in
set_option maxHeartbeats 2000000 in
theorem whole_any (a : Option Addr) (n c : Nat) (raw : List FlR) (fs : List Fl) (w : World) (h1 : FrV w a n c raw fs) (hz : (frmE fs).2 = 0) (j : Nat) (J : Int) (hJ : J = (j : Int)) :
    Calls Try.prog 128 #[.agg #[.slice a n c], .int .i64 J] w fun e w' => e = .returned (.int .i64 (stK fs j)) ∧ Below w.heap.size w w' := by
  subst hJ
  have hn := h1.n_
  have m1 := h1.row.max
  have c1 := h1.row.cap
  have HN := Lib.hid hn
  have HZ := Lib.hid hz
  clear hn hz
  have y0 := alloc_new w (.cells #[.slice a n c] 24)
  have BW : Below w.heap.size w (w.alloc (.cells #[.slice a n c] 24)) := (Below.refl _ _).alloc (Nat.le_refl _) _
  go_enter Try.func128, Try.ntmps128
  go_wp2_with fail
  generalize w.alloc (.cells #[.slice a n c] 24) = W at *
  have f0 := cell_block y0 0
  have hj0 : (0 : Int) ≤ (j : Int) := by omega
  by_cases hlt : j < n
  · have hj1 : (j : Int) < (n : Int) := by omega
    obtain ⟨cb, co, rfl, hcc⟩ := (h1.row.keep BW).at_ (by omega)
    obtain ⟨q0, q1, q2⟩ := hcc j hlt
    obtain ⟨-, -, hsel⟩ := (h1.keep BW).fl j (by rw [← HN.out]; exact hlt)
    have hpt := fun e he => stK_part HZ.out (i := j) (k := e) (by rw [← HN.out]; exact hlt) he
    have hel := (sprE_ok (flErr_ok ((frmE_ok HZ.out).2 j (by rw [← HN.out]; exact hlt))).2.2).1.2
    have hst : stK fs j = sumR (fun e => ((fs[j]?.getD fl0).2.2[e]?.getD el0).1) (fs[j]?.getD fl0).2.2.length := rfl
    obtain ⟨rr, hrr⟩ : ∃ rr, raw[j]?.getD flr0 = rr := ⟨_, rfl⟩
    obtain ⟨ff, hff⟩ : ∃ ff, fs[j]?.getD fl0 = ff := ⟨_, rfl⟩
    obtain ⟨x0, x1, ⟨u1, u2, u3⟩⟩ := rr
    rw [hff] at hsel hpt hel hst
    rw [hrr] at q0 q1 q2 hsel
    clear hrr hcc hff
    dsimp only [hv] at q0 q1 q2 hsel
    have hlen := hsel.len
    have HLE := Lib.hid hlen
    have hu4 : u2 ≤ 4 := by omega
    rw [← hlen] at hst
    have HST := Lib.hid hst
    have HPT := Lib.hid hpt
    have um := hsel.max
    have uc := hsel.cap
    clear hlen hel hst hpt
    go_loopw [5, 6] (fun s i wr => ∃ e : Nat, e ≤ u2 ∧ i = .int .i64 e ∧ s = .int .i64 (sumR (fun e => (ff.2.2[e]?.getD el0).1) e) ∧ W = wr) (fun _ i _ => u2 - (intOf i).toNat)
    case atStart => exact ⟨0, by omega, rfl, rfl, rfl⟩
    case round =>
      obtain ⟨e, he, rfl, rfl, rfl⟩ := hrel
      by_cases hlt2 : e < u2
      · obtain ⟨eb, eo, rfl, hec⟩ := hsel.at_ (by omega)
        obtain ⟨r0, r1, r2⟩ := hec e hlt2
        have hp1 := HPT.out e (by rw [← HLE.out]; omega)
        have hp2 := HPT.out (e + 1) (by rw [← HLE.out]; omega)
        have hs1 : sumR (fun e => (ff.2.2[e]?.getD el0).1) (e + 1) = sumR (fun e => (ff.2.2[e]?.getD el0).1) e + (ff.2.2[e]?.getD el0).1 := rfl
        rw [hs1] at hp2
        obtain ⟨S, hS⟩ : ∃ S, sumR (fun e => (ff.2.2[e]?.getD el0).1) e = S := ⟨_, rfl⟩
        rw [hS] at hp1 hp2 hs1 ⊢
        obtain ⟨v1, hv1⟩ : ∃ x, (ff.2.2[e]?.getD el0).1 = x := ⟨_, rfl⟩
        rw [hv1] at r0 hp2 hs1
        have HS1 := Lib.hid hs1
        clear hs1 hv1 hS hec r1 r2
        have hk1 : (e : Int) < (u2 : Int) := by omega
        have hk0 : (0 : Int) ≤ (e : Int) := by omega
        go_wp2_with fail
        go_roundw
        case rel => exact ⟨e + 1, by omega, by go_num, by rw [HS1.out], trivial⟩
        case measure => simp [intOf]; omega
      · obtain rfl : u2 = e := by omega
        have hk1 : ¬ (u2 : Int) < (u2 : Int) := by omega
        clear hlt2 he
        go_wp2_with fail
        go_ret
        exact ⟨ret_int HST.out.symm, BW⟩
  · have hj1 : ¬ (j : Int) < (n : Int) := by omega
    have hst : stK fs j = 0 := stK_above (by have := HN.out; omega)
    have HST := Lib.hid hst
    clear hst
    go_loopw [5, 6] (fun s i wr => i = .int .i64 0 ∧ s = .int .i64 0 ∧ W = wr) (fun _ _ _ => 0)
    case atStart => exact ⟨rfl, rfl, rfl⟩
    case round =>
      obtain ⟨rfl, rfl, rfl⟩ := hrel
      go_wp2_with fail
      go_ret
      exact ⟨ret_int HST.out.symm, BW⟩

/-- The error of forces. -/
def foE (n : Nat) (p : List Int) : Int := if p.length = n then (eaF (fun i => unlessE (szd (p[i]?.getD 0) 1000000) 2) 0 p.length).2 else 10
theorem foE_ok {n : Nat} {p : List Int} (h : foE n p = 0) : p.length = n ∧ ∀ i : Nat, -1000000 ≤ p[i]?.getD 0 ∧ p[i]?.getD 0 ≤ 1000000 := by
  unfold foE at h
  split at h
  · rename_i hl
    refine ⟨hl, fun i => ?_⟩
    rcases Nat.lt_or_ge i p.length with hi | hi
    · have h9 := eaF_all (k := 0) (m := p.length) (n := p.length) (by omega) h i (by omega) hi
      have h8 : szd (p[i]?.getD 0) 1000000 = true := by
        cases hs : szd (p[i]?.getD 0) 1000000
        · simp [hs, unlessE] at h9
        · rfl
      exact wIn_iff.1 h8
    · rw [List.getElem?_eq_none hi]
      simp
  · simp at h
set_option maxRecDepth 100000 in
set_option maxHeartbeats 2000000 in
theorem rForcesErr_any (a pa : Option Addr) (n c pn pc : Nat) (p : List Int) (w : World) (h2 : SI w pa pn pc p) :
    Calls Try.prog 72 #[.agg #[.slice a n c], .slice pa pn pc] w fun e w' => e = .returned (.int .i64 (foE n p)) ∧ Below w.heap.size w w' := by
  have hln : pn = p.length := h2.len
  have m1 := h2.max
  have c1 := h2.cap
  have y0 := alloc_new w (.cells #[.slice a n c] 24)
  have BW : Below w.heap.size w (w.alloc (.cells #[.slice a n c] 24)) := (Below.refl _ _).alloc (Nat.le_refl _) _
  have f0 := cell_block y0 0
  by_cases hpn : pn = n
  · have hR : foE n p = (eaF (fun i => unlessE (szd (p[i]?.getD 0) 1000000) 2) 0 pn).2 := by rw [foE, if_pos (by omega), ← hln]
    obtain ⟨I, E, hE⟩ : ∃ I E, eaF (fun i => unlessE (szd (p[i]?.getD 0) 1000000) 2) 0 pn = (I, E) := ⟨_, _, rfl⟩
    rw [hR, hE]
    have HR := Lib.hid (show eaF (fun i => unlessE (szd (p[i]?.getD 0) 1000000) 2) 0 (pn - 0) = (I, E) from hE)
    have b1 : ((pn : Int) != (n : Int)) = false := by simp; omega
    clear hR hln hE hpn
    go_enter Try.func72, Try.ntmps72
    go_wp2_with fail
    generalize w.alloc (.cells #[.slice a n c] 24) = W at *
    have h2' := h2.keep BW
    clear f0 y0 b1
    go_loopw [5] (fun i wr => ∃ k : Nat, k ≤ pn ∧ i = .int .i64 k ∧ eaF (fun i => unlessE (szd (p[i]?.getD 0) 1000000) 2) k (pn - k) = (I, E) ∧ W = wr) (fun i _ => pn - (intOf i).toNat)
    case atStart => exact ⟨0, by omega, rfl, HR.out, rfl⟩
    case round =>
      obtain ⟨k, hk, rfl, ht, rfl⟩ := hrel
      have HT := Lib.hid ht
      clear ht
      by_cases hlt : k < pn
      · obtain ⟨b1', o1, rfl, hc1⟩ := h2'.at_ (by omega)
        have p0 := hc1 k hlt
        have hi : (k : Int) < (pn : Int) := by omega
        have hi0 : (0 : Int) ≤ (k : Int) := by omega
        obtain ⟨x, hxx⟩ : ∃ x, p[k]?.getD 0 = x := ⟨_, rfl⟩
        have hrow : szd x 1000000 = false → E = 2 := fun h0 => by
          have := HT.out
          rw [eaF_bad (err := fun i => unlessE (szd (p[i]?.getD 0) 1000000) 2) hlt (by rw [hxx, h0]; simp [unlessE])] at this
          have := congrArg Prod.snd this
          simp only at this
          rw [← this, hxx, h0]
          rfl
        have hgo : szd x 1000000 = true → eaF (fun i => unlessE (szd (p[i]?.getD 0) 1000000) 2) (k + 1) (pn - (k + 1)) = (I, E) := fun h => (eaF_ok (err := fun i => unlessE (szd (p[i]?.getD 0) 1000000) 2) hlt (by rw [hxx, h]; simp [unlessE])).symm.trans HT.out
        rw [hxx] at p0
        have HROW := Lib.hid hrow
        have HGO := Lib.hid hgo
        clear hc1 hxx hrow hgo
        go_wp2_with fail
        refine (within_any x (-1000000) 1000000 _).mono ?_
        rintro e w1 ⟨rfl, rfl⟩
        rw [show wIn x (-1000000) 1000000 = szd x 1000000 from rfl]
        cases hs : szd x 1000000
        · have he := HROW.out hs
          have HE := Lib.hid he
          clear hs he
          go_wp2_with fail
          go_ret
          exact ⟨ret_int HE.out.symm, BW⟩
        · have he := HGO.out hs
          have HE := Lib.hid he
          clear hs he
          go_wp2_with fail
          go_roundw
          case rel => exact ⟨k + 1, by omega, by go_num, HE.out, trivial⟩
          case measure => simp [intOf]; omega
      · obtain rfl : pn = k := by omega
        have hle : ¬ (pn : Int) < (pn : Int) := by omega
        have he : E = 0 := by
          have := HT.out
          rw [eaF_end (Nat.le_refl _)] at this
          exact (congrArg Prod.snd this).symm
        have HE := Lib.hid he
        clear hlt hk he
        go_wp2_with fail
        go_ret
        exact ⟨ret_int HE.out.symm, BW⟩
  · have hR : foE n p = 10 := by rw [foE, if_neg (by omega)]
    rw [hR]
    have b1 : ((pn : Int) != (n : Int)) = true := by simp; omega
    clear hR hln
    go_enter Try.func72, Try.ntmps72
    go_wp2_with fail
    go_ret
    exact ⟨rfl, BW⟩
end Go.Proofs.Ytaiikekgckjdeaa
