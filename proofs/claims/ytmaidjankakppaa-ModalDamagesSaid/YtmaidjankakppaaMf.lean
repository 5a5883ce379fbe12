/- Contracts of chapter 6: the determinants of a frame, one after the other. -/
import Derived.Test.YtmaidjankakppaaMe
import Derived.Test.YtmaidjankakppaaRf
namespace Go.Proofs.Ytmaidjankakppaa
open Go.RowKit Go.Shelf
attribute [local go_sem] Oper.semAt_some
open Calmly (Kept)

/-- Here the walk stops. -/
structure Stop (p : Prop) : Prop where
  out : p
/-- The rest of a sequence is to be walked within a fence. -/
theorem wp_seq_in {P : Program} {Q : Exit → Act → World → Prop} {a : Act} {w : World} {x y : Code} (n : Nat) (h : ∀ K : Act → World → Prop, (∀ a w, y.wpIn Fence.wide n P Q a w → K a w) → x.wp P (Exit.then K Q) a w) : (Code.seq x y).wp P Q a w :=
  wp_seq_k (fun K hK => h K (fun a w hy => hK a w (wpIn_wide.1 hy)))

theorem mul_bd2 {a x A C : Int} (h1 : -A ≤ a) (h2 : a ≤ A) (h3 : -C ≤ x) (h4 : x ≤ C) : -(A * C) ≤ a * x ∧ a * x ≤ A * C := by
  have hA : 0 ≤ A := by omega
  have hC : 0 ≤ C := by omega
  have h : (a * x).natAbs ≤ A.natAbs * C.natAbs := by
    rw [Int.natAbs_mul]
    exact Nat.mul_le_mul (by omega) (by omega)
  have h5 : ((A.natAbs * C.natAbs : Nat) : Int) = A * C := by rw [Int.natCast_mul]; congr 1 <;> omega
  omega

def detNext (own m k num den : Int) (i : Nat) (before now : Int) : Int := if i = 0 then (den * own - num * m) * now else (den * own - num * m) * now - den * den * k * k * before
/-- The two last determinants. -/
def detRow (ms ks : List Int) (num den : Int) : Nat → Int × Int
  | 0 => (0, 1)
  | i + 1 => ((detRow ms ks num den i).2, detNext (ks[i]?.getD 0 + ks[i + 1]?.getD 0) (ms[i]?.getD 0) (ks[i]?.getD 0) num den i (detRow ms ks num den i).1 (detRow ms ks num den i).2)
def dets (ms ks : List Int) (num den : Int) (n : Nat) : List Int := (List.range n).map (fun i => (detRow ms ks num den (i + 1)).2)
theorem dets_succ (ms ks : List Int) (num den : Int) (n : Nat) : dets ms ks num den (n + 1) = dets ms ks num den n ++ [(detRow ms ks num den (n + 1)).2] := by
  unfold dets
  rw [List.range_succ, List.map_append]
  rfl
theorem dets_len (ms ks : List Int) (num den : Int) (n : Nat) : (dets ms ks num den n).length = n := by simp [dets]

/-- Squares for which no determinant leaves the numbers. -/
def Sq (num den : Int) : Prop := -4000 ≤ num ∧ num ≤ 4000 ∧ 1 ≤ den ∧ den ≤ 100

theorem det_parts {den num k ab mi : Int} (hq : Sq num den) (hk : 0 ≤ k ∧ k ≤ 20) (ha : 0 ≤ ab ∧ ab ≤ 20) (hm : 0 ≤ mi ∧ mi ≤ 10) :
    (0 ≤ den * (k + ab) ∧ den * (k + ab) ≤ 4000) ∧ (-40000 ≤ num * mi ∧ num * mi ≤ 40000) ∧ (0 ≤ den * den ∧ den * den ≤ 10000) ∧ (0 ≤ den * den * k ∧ den * den * k ≤ 200000) ∧ (0 ≤ den * den * k * k ∧ den * den * k * k ≤ 4000000) := by
  obtain ⟨q1, q2, q3, q4⟩ := hq
  have e1 := mul_bd (a := den) (x := k + ab) (A := 100) (C := 40) (by omega) (by omega) (by omega) (by omega) (by omega)
  have e1' : 0 ≤ den * (k + ab) := Int.mul_nonneg (by omega) (by omega)
  have e2 := mul_bd2 (a := num) (x := mi) (A := 4000) (C := 10) (by omega) (by omega) (by omega) (by omega)
  have e3 := mul_bd (a := den) (x := den) (A := 100) (C := 100) (by omega) (by omega) (by omega) (by omega) (by omega)
  have e3' : 0 ≤ den * den := Int.mul_nonneg (by omega) (by omega)
  have e4 := mul_bd (a := den * den) (x := k) (A := 10000) (C := 20) (by omega) (by omega) (by omega) (by omega) (by omega)
  have e4' : 0 ≤ den * den * k := Int.mul_nonneg (by omega) (by omega)
  have e5 := mul_bd (a := den * den * k) (x := k) (A := 200000) (C := 20) (by omega) (by omega) (by omega) (by omega) (by omega)
  have e5' : 0 ≤ den * den * k * k := Int.mul_nonneg (by omega) (by omega)
  omega
theorem detRow_bd {ms ks : List Int} (he : (checkF ms ks).2 = 0) {num den : Int} (hq : Sq num den) (i : Nat) (hi : i ≤ ms.length) :
    (-(if i = 0 then 0 else 50000 ^ (i - 1)) ≤ (detRow ms ks num den i).1 ∧ (detRow ms ks num den i).1 ≤ if i = 0 then 0 else 50000 ^ (i - 1)) ∧ (-(50000 ^ i) ≤ (detRow ms ks num den i).2 ∧ (detRow ms ks num den i).2 ≤ 50000 ^ i) := by
  obtain ⟨q1, q2, q3, q4, q5⟩ := checkF_ok he
  induction i with
  | zero => simp [detRow]
  | succ i ih =>
    obtain ⟨ih1, ih2⟩ := ih (by omega)
    refine ⟨by simpa [detRow] using ih2, ?_⟩
    have e1 := own_bd q1 q5 i
    have e2 := own_bd q1 q5 (i + 1)
    have e3 := q4 i (by omega)
    obtain ⟨p1, p2, p3, p4, p5⟩ := det_parts hq e1 e2 (mi := ms[i]?.getD 0) (by omega)
    simp only [detRow, detNext]
    have f1 := mul_bd2 (a := den * (ks[i]?.getD 0 + ks[i + 1]?.getD 0) - num * ms[i]?.getD 0) (x := (detRow ms ks num den i).2) (A := 44000) (by omega) (by omega) ih2.1 ih2.2
    have hs : (50000 : Int) ^ (i + 1) = 50000 ^ i * 50000 := Int.pow_succ ..
    have hC : (0 : Int) ≤ 50000 ^ i := Int.pow_nonneg (by omega)
    by_cases hz : i = 0
    · rw [if_pos hz]
      omega
    · rw [if_neg hz]
      rw [if_neg hz] at ih1
      have f2 := mul_bd2 (a := den * den * ks[i]?.getD 0 * ks[i]?.getD 0) (x := (detRow ms ks num den i).1) (A := 4000000) (by omega) (by omega) ih1.1 ih1.2
      have hs2 : (50000 : Int) ^ i = 50000 ^ (i - 1) * 50000 := by
        have : i = (i - 1) + 1 := by omega
        rw [this, Int.pow_succ]
        simp
      have hD : (0 : Int) ≤ 50000 ^ (i - 1) := Int.pow_nonneg (by omega)
      omega
theorem detRow_num {ms ks : List Int} (he : (checkF ms ks).2 = 0) {num den : Int} (hq : Sq num den) (i : Nat) (hi : i < ms.length) :
    (-2500000000 ≤ (detRow ms ks num den i).1 ∧ (detRow ms ks num den i).1 ≤ 2500000000) ∧ (-125000000000000 ≤ (detRow ms ks num den i).2 ∧ (detRow ms ks num den i).2 ≤ 125000000000000) := by
  obtain ⟨q1, q2, q3, q4, q5⟩ := checkF_ok he
  obtain ⟨h1, h2⟩ := detRow_bd he hq i (by omega)
  have : i = 0 ∨ i = 1 ∨ i = 2 ∨ i = 3 := by omega
  rcases this with rfl | rfl | rfl | rfl <;> simp at h1 h2 <;> omega

theorem round_wide {m m' : Nat} {P : Program} {l : Nat} {f : FuncId} {tmps : Array Value} {assign body : Code} {w : World} {R : Ending → World → Prop}
    (h : RoundIn Fence.wide m P l f tmps assign body w R) : RoundIn Fence.wide m' P l f tmps assign body w R := ⟨h.1, fun c cs _ => h.2 c cs (room_wide _)⟩
/-- The memory that the closure reads. -/
def Dt (w : World) (bf bd bn : Nat) (F : Obj) (num den : Int) (v : World) : Prop :=
  w.heap.size ≤ v.heap.size ∧ (∀ k, k < w.heap.size → v.heap[k]? = w.heap[k]?) ∧ v.heap[bf]? = some F ∧ v.heap[bd]? = some (.cells #[.int .i64 den] 3) ∧ v.heap[bn]? = some (.cells #[.int .i64 num] 3)
theorem Dt.below {w v v' : World} {bf bd bn : Nat} {F : Obj} {num den : Int} (h : Dt w bf bd bn F num den v) (hb : Below v.heap.size v v') : Dt w bf bd bn F num den v' := by
  obtain ⟨h1, h2, h3, h4, h5⟩ := h
  exact ⟨Nat.le_trans h1 hb.size, fun k hk => (hb.block k (by omega)).trans (h2 k hk), blk_keep h3 hb, blk_keep h4 hb, blk_keep h5 hb⟩
theorem Dt.si {w v : World} {bf bd bn : Nat} {F : Obj} {num den : Int} (h : Dt w bf bd bn F num den v) {a : Option Addr} {n c : Nat} {xs : List Int} (hs : SI w a n c xs) : SI v a n c xs := by
  obtain ⟨h1, h2, _⟩ := h
  obtain ⟨s1, s2, s3, s4⟩ := hs
  refine ⟨s1, s2, s3, ?_⟩
  rcases s4 with s4 | ⟨b, off, ha, hc⟩
  · exact .inl s4
  · refine .inr ⟨b, off, ha, fun i hi => ?_⟩
    have h3 := hc i hi
    have hsz : i < (xs.map (Value.int .i64)).length := by omega
    rw [List.getElem?_eq_getElem hsz] at h3 ⊢
    rw [World.cell?_of_block (h2 b (cell_lt h3))]
    exact h3

theorem grown_of_below {w w' : World} (h : Below w.heap.size w w') : w.grownBy w' none := ⟨h.os, h.tape, h.output, h.size, fun k hk _ => h.block k hk⟩
theorem Dt.cells {w v : World} {bf bd bn : Nat} {x y : Value} {e : TypeId} {num den : Int} (h : Dt w bf bd bn (.cells #[x, y] e) num den v) :
    v.cell? ⟨bf, 0, none⟩ = some x ∧ v.cell? ⟨bf, 1, none⟩ = some y ∧ v.cell? ⟨bd, 0, none⟩ = some (.int .i64 den) ∧ v.cell? ⟨bn, 0, none⟩ = some (.int .i64 num) := by
  obtain ⟨_, _, h3, h4, h5⟩ := h
  exact ⟨cell_block h3 0, cell_block h3 1, cell_block h4 0, cell_block h5 0⟩

set_option maxRecDepth 100000 in
set_option maxHeartbeats 4000000 in
theorem dets_call (l : Nat) (J Jx : List Int → World → Prop) (w W : World) (a b : Option Addr) (m c d bf bd bn : Nat) (ms ks : List Int) (num den : Int) (h1 : SI w a m c ms) (h2 : SI w b m d ks) (he : (checkF ms ks).2 = 0) (hq : Sq num den)
    (hD : Dt w bf bd bn (.cells #[.slice a m c, .slice b m d] 141) num den W) (hJ : AbidesFrom W.heap.size J) (k : Nat)
    (hY : ∀ pre x W1, J pre W1 → pre.length < m → YieldAt Fence.wide k Try.prog l #[.int .i64 x] W1 fun e W' =>
      (e = .returned (.bool true) ∧ J (pre ++ [x]) W' ∧ (Dt w bf bd bn (.cells #[.slice a m c, .slice b m d] 141) num den W1 → Dt w bf bd bn (.cells #[.slice a m c, .slice b m d] 141) num den W')) ∨ (e = .returned (.bool false) ∧ Jx (pre ++ [x]) W'))
    (h0 : J [] W) :
    Calls Try.prog 147 #[.func (.yield l) #[] #[], .pointer (some ⟨bf, 0, none⟩), .pointer (some ⟨bd, 0, none⟩), .pointer (some ⟨bn, 0, none⟩)] W fun e W' => (∃ v, e = .returned v) ∧
      (J (dets ms ks num den m) W' ∨ ∃ pre, Jx pre W') := by
  obtain ⟨l1, l2⟩ : m ≤ ms.length ∧ ms.length ≤ m := by have := h1.len; omega
  obtain ⟨q1, q2, q3, q4, q5⟩ := checkF_ok he
  have Q4 := Lib.hid q4
  have Q5 := Lib.hid q5
  have HY := Lib.hid hY
  have HJ := Lib.hid hJ
  clear q4 q5 hY hJ
  have e0 := hD.cells.2.1
  go_enter Try.func147, Try.ntmps147
  go_wp2_with fail
  go_loopw [5, 6, 13] (fun x y z wr => ∃ (i : Nat), i ≤ m ∧ x = .int .i64 (detRow ms ks num den i).1 ∧ y = .int .i64 (detRow ms ks num den i).2 ∧ z = .int .i64 i ∧ J (dets ms ks num den i) wr ∧ Dt w bf bd bn (.cells #[.slice a m c, .slice b m d] 141) num den wr) (fun _ _ z _ => m - (intOf z).toNat)
  case atStart => exact ⟨0, by omega, rfl, rfl, rfl, h0, hD⟩
  case round =>
    clear h0
    obtain ⟨i, hi, rfl, rfl, rfl, hJi, hDi⟩ := hrel
    by_cases hlt : i < m
    · obtain ⟨ba, oa, rfl, hca⟩ := (hDi.si h1).at_ (by omega)
      obtain ⟨bb, ob, rfl, hcb⟩ := (hDi.si h2).at_ (by omega)
      have ea := hca i hlt
      have eb := hcb i hlt
      clear hca hcb
      obtain ⟨f0, f1, f2, f3⟩ := hDi.cells
      have hi1 : (i : Int) < (m : Int) := by omega
      have hi0 : (0 : Int) ≤ (i : Int) := by omega
      obtain ⟨⟨n1, n2⟩, n3, n4⟩ := detRow_num he hq i (by omega)
      have e1 := own_bd q1 Q5.out i
      have e2 := own_bd q1 Q5.out (i + 1)
      have e3 := Q4.out i (by omega)
      obtain ⟨⟨p1, p1'⟩, ⟨p2, p2'⟩, ⟨p3, p3'⟩, ⟨p4, p4'⟩, p5, p5'⟩ := det_parts hq e1 e2 (mi := ms[i]?.getD 0) (by omega)
      have g1 := mul_bd2 (a := den * (ks[i]?.getD 0 + ks[i + 1]?.getD 0) - num * ms[i]?.getD 0) (x := (detRow ms ks num den i).2) (A := 44000) (by omega) (by omega) n3 n4
      have g2 := mul_bd2 (a := den * den * ks[i]?.getD 0 * ks[i]?.getD 0) (x := (detRow ms ks num den i).1) (A := 4000000) (by omega) (by omega) n1 n2
      obtain ⟨g1a, g1b⟩ := g1
      obtain ⟨g2a, g2b⟩ := g2
      simp only [Int.reduceMul, Int.reduceNeg] at g1a g1b g2a g2b
      go_wp2_with fail
      refine Calmly.wp_region_mix 26 (.fl 0 <| .fl 1 <| .fl 2 <| .fl 3 <| .fl 7 <| .fl 8 <| .fl 9 <| .fl 10 <| .fl 11 <| .fl 12 <| .fl 13 <| .fl 15 <| .fl 17 <| .fl 18 <| .fl 19 <| .fl 20 <| .fl 21 <| .fl 22 <| .fl 23 <| .fl 24 <| .fl 25 <| .eff 4 <| .fl 5 <| .fl 6 <| .fl 14 <| .fl 16 <| .tail [26, 27]) (by kernel_rfl) (by kernel_rfl) ?_
      rename_i K hK
      have hK' := fun a w (h : Stop _) => hK a w h.out
      clear hK
      have hk := Below.refl wr.drew.heap.size wr.drew
      go_wp2_with (first | ((with_reducible refine Calmly.is_fl ?_); refine Calmly.mix_fl rfl ?_ (fun _ _ => ?_); (first | exact .move _ | exact .load _ _ | exact .fieldAddr _ _ _ (by kernel_rfl) | exact .assign _ | exact .binOp _ _ _ _ _ rfl | exact .indexAddr _ _ _ | exact .len _ _ (by kernel_rfl) | exact .field _ _ _ | exact .extract _ _ | exact .pick _ _ _ | exact .build _ _ | exact .slice _ _ _ _ _ | exact .unOp _ _ _ rfl | exact .index _ _ _ | exact .max _ _ _ rfl rfl | exact .min _ _ _ rfl rfl)) | ((with_reducible refine Calmly.is_gl ?_); refine Calmly.mix_gl rfl rfl rfl ?_; first | ((first | with_reducible refine Calmly.gl_tt ?_ (fun _ _ => ?_) | with_reducible refine Calmly.gl_ff ?_ (fun _ _ => ?_)); (first | exact .move _ | exact .load _ _ | exact .fieldAddr _ _ _ (by kernel_rfl) | exact .assign _ | exact .binOp _ _ _ _ _ rfl | exact .indexAddr _ _ _ | exact .len _ _ (by kernel_rfl) | exact .field _ _ _ | exact .extract _ _ | exact .pick _ _ _ | exact .build _ _ | exact .slice _ _ _ _ _ | exact .unOp _ _ _ rfl | exact .index _ _ _ | exact .max _ _ _ rfl rfl | exact .min _ _ _ rfl rfl)) | with_reducible refine Calmly.gl_tf (fun _ _ => ?_) | with_reducible refine Calmly.gl_ft (fun _ _ => ?_)) | ((with_reducible refine Calmly.is_eff ?_); refine Calmly.mix_eff rfl (fun _ _ => ?_)) | ((with_reducible refine Calmly.is_gf ?_); refine Calmly.mix_gf rfl rfl rfl ?_; first | with_reducible refine Calmly.gf_tt (fun _ _ => ?_) | with_reducible refine Calmly.gf_ff (fun _ _ => ?_) | with_reducible refine Calmly.gf_tf (kept_of hk) (fun _ _ => ?_) | with_reducible refine Calmly.gf_ft (kept_of hk) (fun _ _ => ?_)) | ((with_reducible refine Calmly.is_tail ?_); first | refine Calmly.mix_tail_nil ?_ | refine Calmly.mix_tail rfl (fun _ _ => ?_)) | ((with_reducible refine Calmly.is_kept ?_); refine ⟨kept_of hk, ?_⟩) | (with_reducible refine Calmly.mix_alt ?_ ?_))
      refine (above_any (some ⟨ba, oa, none⟩) (some ⟨bb, ob, none⟩) m c m d ks i _ (hDi.si h2).drew (by omega) (by omega)).mono ?_
      rintro e w3 ⟨rfl, hb3⟩
      replace hk := step_of hk hb3
      have hDj := Dt.below (v := wr.drew) hDi hb3
      have hJj := HJ.out _ wr w3 none hJi (grown_of_below ((Below.refl wr.heap.size wr).drew.trans hb3)) (fun r e => by cases e)
      have hsz3 := hb3.size
      go_wp2_with (first | ((with_reducible refine Calmly.is_fl ?_); refine Calmly.mix_fl rfl ?_ (fun _ _ => ?_); (first | exact .move _ | exact .load _ _ | exact .fieldAddr _ _ _ (by kernel_rfl) | exact .assign _ | exact .binOp _ _ _ _ _ rfl | exact .indexAddr _ _ _ | exact .len _ _ (by kernel_rfl) | exact .field _ _ _ | exact .extract _ _ | exact .pick _ _ _ | exact .build _ _ | exact .slice _ _ _ _ _ | exact .unOp _ _ _ rfl | exact .index _ _ _ | exact .max _ _ _ rfl rfl | exact .min _ _ _ rfl rfl)) | ((with_reducible refine Calmly.is_gl ?_); refine Calmly.mix_gl rfl rfl rfl ?_; first | ((first | with_reducible refine Calmly.gl_tt ?_ (fun _ _ => ?_) | with_reducible refine Calmly.gl_ff ?_ (fun _ _ => ?_)); (first | exact .move _ | exact .load _ _ | exact .fieldAddr _ _ _ (by kernel_rfl) | exact .assign _ | exact .binOp _ _ _ _ _ rfl | exact .indexAddr _ _ _ | exact .len _ _ (by kernel_rfl) | exact .field _ _ _ | exact .extract _ _ | exact .pick _ _ _ | exact .build _ _ | exact .slice _ _ _ _ _ | exact .unOp _ _ _ rfl | exact .index _ _ _ | exact .max _ _ _ rfl rfl | exact .min _ _ _ rfl rfl)) | with_reducible refine Calmly.gl_tf (fun _ _ => ?_) | with_reducible refine Calmly.gl_ft (fun _ _ => ?_)) | ((with_reducible refine Calmly.is_eff ?_); refine Calmly.mix_eff rfl (fun _ _ => ?_)) | ((with_reducible refine Calmly.is_gf ?_); refine Calmly.mix_gf rfl rfl rfl ?_; first | with_reducible refine Calmly.gf_tt (fun _ _ => ?_) | with_reducible refine Calmly.gf_ff (fun _ _ => ?_) | with_reducible refine Calmly.gf_tf (kept_of hk) (fun _ _ => ?_) | with_reducible refine Calmly.gf_ft (kept_of hk) (fun _ _ => ?_)) | ((with_reducible refine Calmly.is_tail ?_); first | refine Calmly.mix_tail_nil ?_ | refine Calmly.mix_tail rfl (fun _ _ => ?_)) | ((with_reducible refine Calmly.is_kept ?_); refine ⟨kept_of hk, ?_⟩) | (with_reducible refine Calmly.mix_alt ?_ ?_))
      refine ⟨?_⟩
      refine wp_seq_in 5 (fun K2 hK2 => ?_)
      have ea3 := cell_keep (w := wr.drew) ea hb3
      have eb3 := cell_keep (w := wr.drew) eb hb3
      obtain ⟨f0', f1', f2', f3'⟩ := hDj.cells
      clear ea eb f0 f1 f2 f3 hk hb3
      by_cases hz : i = 0
      · have hz1 : ((i : Int) == 0) = true := by simp [hz]
        have hx : (detRow ms ks num den (i + 1)).2 = (den * (ks[i]?.getD 0 + ks[i + 1]?.getD 0) - num * ms[i]?.getD 0) * (detRow ms ks num den i).2 := by
          simp only [detRow, detNext]
          rw [if_pos hz]
        have HX := Lib.hid hx
        clear hx hz
        go_wp2_with fail
        refine Calmly.wp_region_mix 16 (.fl 0 <| .fl 1 <| .fl 2 <| .fl 3 <| .fl 7 <| .fl 8 <| .fl 9 <| .fl 10 <| .fl 11 <| .fl 12 <| .fl 13 <| .fl 15 <| .eff 4 <| .fl 5 <| .fl 6 <| .fl 14 <| .tail [16, 17]) (by kernel_rfl) (by kernel_rfl) ?_
        have hk := Below.refl w3.drew.heap.size w3.drew
        go_wp2_with (first | ((with_reducible refine Calmly.is_fl ?_); refine Calmly.mix_fl rfl ?_ (fun _ _ => ?_); (first | exact .move _ | exact .load _ _ | exact .fieldAddr _ _ _ (by kernel_rfl) | exact .assign _ | exact .binOp _ _ _ _ _ rfl | exact .indexAddr _ _ _ | exact .len _ _ (by kernel_rfl) | exact .field _ _ _ | exact .extract _ _ | exact .pick _ _ _ | exact .build _ _ | exact .slice _ _ _ _ _ | exact .unOp _ _ _ rfl | exact .index _ _ _ | exact .max _ _ _ rfl rfl | exact .min _ _ _ rfl rfl)) | ((with_reducible refine Calmly.is_gl ?_); refine Calmly.mix_gl rfl rfl rfl ?_; first | ((first | with_reducible refine Calmly.gl_tt ?_ (fun _ _ => ?_) | with_reducible refine Calmly.gl_ff ?_ (fun _ _ => ?_)); (first | exact .move _ | exact .load _ _ | exact .fieldAddr _ _ _ (by kernel_rfl) | exact .assign _ | exact .binOp _ _ _ _ _ rfl | exact .indexAddr _ _ _ | exact .len _ _ (by kernel_rfl) | exact .field _ _ _ | exact .extract _ _ | exact .pick _ _ _ | exact .build _ _ | exact .slice _ _ _ _ _ | exact .unOp _ _ _ rfl | exact .index _ _ _ | exact .max _ _ _ rfl rfl | exact .min _ _ _ rfl rfl)) | with_reducible refine Calmly.gl_tf (fun _ _ => ?_) | with_reducible refine Calmly.gl_ft (fun _ _ => ?_)) | ((with_reducible refine Calmly.is_eff ?_); refine Calmly.mix_eff rfl (fun _ _ => ?_)) | ((with_reducible refine Calmly.is_gf ?_); refine Calmly.mix_gf rfl rfl rfl ?_; first | with_reducible refine Calmly.gf_tt (fun _ _ => ?_) | with_reducible refine Calmly.gf_ff (fun _ _ => ?_) | with_reducible refine Calmly.gf_tf (kept_of hk) (fun _ _ => ?_) | with_reducible refine Calmly.gf_ft (kept_of hk) (fun _ _ => ?_)) | ((with_reducible refine Calmly.is_tail ?_); first | refine Calmly.mix_tail_nil ?_ | refine Calmly.mix_tail rfl (fun _ _ => ?_)) | ((with_reducible refine Calmly.is_kept ?_); refine ⟨kept_of hk, ?_⟩) | (with_reducible refine Calmly.mix_alt ?_ ?_))
        refine (above_any (some ⟨ba, oa, none⟩) (some ⟨bb, ob, none⟩) m c m d ks i _ (hDj.si h2).drew (by omega) (by omega)).mono ?_
        rintro e w4 ⟨rfl, hb4⟩
        replace hk := step_of hk hb4
        have hDk := Dt.below (v := w3.drew) hDj hb4
        have hJk := HJ.out _ w3 w4 none hJj (grown_of_below ((Below.refl w3.heap.size w3).drew.trans hb4)) (fun r e => by cases e)
        have hsz4 := hb4.size
        go_wp2_with (first | ((with_reducible refine Calmly.is_fl ?_); refine Calmly.mix_fl rfl ?_ (fun _ _ => ?_); (first | exact .move _ | exact .load _ _ | exact .fieldAddr _ _ _ (by kernel_rfl) | exact .assign _ | exact .binOp _ _ _ _ _ rfl | exact .indexAddr _ _ _ | exact .len _ _ (by kernel_rfl) | exact .field _ _ _ | exact .extract _ _ | exact .pick _ _ _ | exact .build _ _ | exact .slice _ _ _ _ _ | exact .unOp _ _ _ rfl | exact .index _ _ _ | exact .max _ _ _ rfl rfl | exact .min _ _ _ rfl rfl)) | ((with_reducible refine Calmly.is_gl ?_); refine Calmly.mix_gl rfl rfl rfl ?_; first | ((first | with_reducible refine Calmly.gl_tt ?_ (fun _ _ => ?_) | with_reducible refine Calmly.gl_ff ?_ (fun _ _ => ?_)); (first | exact .move _ | exact .load _ _ | exact .fieldAddr _ _ _ (by kernel_rfl) | exact .assign _ | exact .binOp _ _ _ _ _ rfl | exact .indexAddr _ _ _ | exact .len _ _ (by kernel_rfl) | exact .field _ _ _ | exact .extract _ _ | exact .pick _ _ _ | exact .build _ _ | exact .slice _ _ _ _ _ | exact .unOp _ _ _ rfl | exact .index _ _ _ | exact .max _ _ _ rfl rfl | exact .min _ _ _ rfl rfl)) | with_reducible refine Calmly.gl_tf (fun _ _ => ?_) | with_reducible refine Calmly.gl_ft (fun _ _ => ?_)) | ((with_reducible refine Calmly.is_eff ?_); refine Calmly.mix_eff rfl (fun _ _ => ?_)) | ((with_reducible refine Calmly.is_gf ?_); refine Calmly.mix_gf rfl rfl rfl ?_; first | with_reducible refine Calmly.gf_tt (fun _ _ => ?_) | with_reducible refine Calmly.gf_ff (fun _ _ => ?_) | with_reducible refine Calmly.gf_tf (kept_of hk) (fun _ _ => ?_) | with_reducible refine Calmly.gf_ft (kept_of hk) (fun _ _ => ?_)) | ((with_reducible refine Calmly.is_tail ?_); first | refine Calmly.mix_tail_nil ?_ | refine Calmly.mix_tail rfl (fun _ _ => ?_)) | ((with_reducible refine Calmly.is_kept ?_); refine ⟨kept_of hk, ?_⟩) | (with_reducible refine Calmly.mix_alt ?_ ?_))
        obtain ⟨fn, tmps, assign, body, hy, hR⟩ := HY.out _ ((den * (ks[i]?.getD 0 + ks[i + 1]?.getD 0) - num * ms[i]?.getD 0) * (detRow ms ks num den i).2) w4 hJk (by rw [dets_len]; exact hlt)
        go_wp2_with fail
        gi_wp2
        refine (round_wide hR).mono ?_
        rintro e W5 (⟨rfl, hJ5, hk5⟩ | ⟨rfl, hx5⟩)
        · gi_wp2
          go_wp2_with fail
          go_roundw
          case rel => exact ⟨i + 1, by omega, rfl, by rw [HX.out], by go_num, by rw [dets_succ, HX.out]; exact hJ5, hk5 hDk⟩
          case measure => simp [intOf]; omega
        · gi_wp2
          refine bodyPost_ret (results_none rfl _ _ _) rfl ?_
          exact ⟨⟨_, rfl⟩, .inr ⟨_, hx5⟩⟩
      · have hz1 : ((i : Int) == 0) = false := by simp [hz]
        have hx : (detRow ms ks num den (i + 1)).2 = (den * (ks[i]?.getD 0 + ks[i + 1]?.getD 0) - num * ms[i]?.getD 0) * (detRow ms ks num den i).2 - den * den * ks[i]?.getD 0 * ks[i]?.getD 0 * (detRow ms ks num den i).1 := by
          simp only [detRow, detNext]
          rw [if_neg hz]
        have HX := Lib.hid hx
        clear hx hz
        obtain ⟨fn, tmps, assign, body, hy, hR⟩ := HY.out _ ((den * (ks[i]?.getD 0 + ks[i + 1]?.getD 0) - num * ms[i]?.getD 0) * (detRow ms ks num den i).2 - den * den * ks[i]?.getD 0 * ks[i]?.getD 0 * (detRow ms ks num den i).1) w3 hJj (by rw [dets_len]; exact hlt)
        go_wp2_with fail
        gi_wp2
        refine (round_wide hR).mono ?_
        rintro e W5 (⟨rfl, hJ5, hk5⟩ | ⟨rfl, hx5⟩)
        · gi_wp2
          go_wp2_with fail
          go_roundw
          case rel => exact ⟨i + 1, by omega, rfl, by rw [HX.out], by go_num, by rw [dets_succ, HX.out]; exact hJ5, hk5 hDj⟩
          case measure => simp [intOf]; omega
        · gi_wp2
          refine bodyPost_ret (results_none rfl _ _ _) rfl ?_
          exact ⟨⟨_, rfl⟩, .inr ⟨_, hx5⟩⟩
    · have hle : (m : Int) ≤ (i : Int) := by omega
      obtain rfl : i = m := by omega
      go_wp2_with fail
      go_end0
      exact ⟨⟨_, rfl⟩, .inl hJi⟩
end Go.Proofs.Ytmaidjankakppaa
