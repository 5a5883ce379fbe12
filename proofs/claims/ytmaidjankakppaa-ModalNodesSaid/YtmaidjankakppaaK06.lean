/- Contracts of chapter 6: the determinants of a frame, one after the other. Contracts of chapter 6: the count below a square. Contracts of chapter 6: the enclosure of a mode. Contracts of chapter 6: EnclosureOf. -/
import Derived.Test.YtmaidjankakppaaK05
namespace Go.Proofs.Ytmaidjankakppaa
open Go.RowKit Go.Shelf
attribute [local go_sem] Oper.semAt_some
open Calmly (Kept)

/-- Here the walk stops. -/
structure Stop (p : Prop) : Prop where
  out : p
/-- The rest of a sequence is to be walked within a fence. -/
theorem wp_seq_in {P : Program} {Q : Exit → Act → World → Prop} {a : Act} {w : World} {x y : Code} (n : Nat) (h : ∀ K : Act → World → Prop, (∀ a w, y.wpIn Fence.wide n P Q a w → K a w) → x.wp P (Exit.then K Q) a w) : (Code.seq x y).wp P Q a w :=
  wp_seq_k (fun K hK => h K (fun a w hy => hK a w (wpIn_wide.1 hy)))

theorem mul_bd2 {a x A C : Int} (h1 : -A ≤ a) (h2 : a ≤ A) (h3 : -C ≤ x) (h4 : x ≤ C) : -(A * C) ≤ a * x ∧ a * x ≤ A * C := by
  have hA : 0 ≤ A := by omega
  have hC : 0 ≤ C := by omega
  have h : (a * x).natAbs ≤ A.natAbs * C.natAbs := by
    rw [Int.natAbs_mul]
    exact Nat.mul_le_mul (by omega) (by omega)
  have h5 : ((A.natAbs * C.natAbs : Nat) : Int) = A * C := by rw [Int.natCast_mul]; congr 1 <;> omega
  omega

def detNext (own m k num den : Int) (i : Nat) (before now : Int) : Int := if i = 0 then (den * own - num * m) * now else (den * own - num * m) * now - den * den * k * k * before
/-- The two last determinants. -/
def detRow (ms ks : List Int) (num den : Int) : Nat → Int × Int
  | 0 => (0, 1)
  | i + 1 => ((detRow ms ks num den i).2, detNext (ks[i]?.getD 0 + ks[i + 1]?.getD 0) (ms[i]?.getD 0) (ks[i]?.getD 0) num den i (detRow ms ks num den i).1 (detRow ms ks num den i).2)
def dets (ms ks : List Int) (num den : Int) (n : Nat) : List Int := (List.range n).map (fun i => (detRow ms ks num den (i + 1)).2)
theorem dets_succ (ms ks : List Int) (num den : Int) (n : Nat) : dets ms ks num den (n + 1) = dets ms ks num den n ++ [(detRow ms ks num den (n + 1)).2] := by
  unfold dets
  rw [List.range_succ, List.map_append]
  rfl
theorem dets_len (ms ks : List Int) (num den : Int) (n : Nat) : (dets ms ks num den n).length = n := by simp [dets]

/-- Squares for which no determinant leaves the numbers. -/
def Sq (num den : Int) : Prop := -4000 ≤ num ∧ num ≤ 4000 ∧ 1 ≤ den ∧ den ≤ 100

theorem det_parts {den num k ab mi : Int} (hq : Sq num den) (hk : 0 ≤ k ∧ k ≤ 20) (ha : 0 ≤ ab ∧ ab ≤ 20) (hm : 0 ≤ mi ∧ mi ≤ 10) :
    (0 ≤ den * (k + ab) ∧ den * (k + ab) ≤ 4000) ∧ (-40000 ≤ num * mi ∧ num * mi ≤ 40000) ∧ (0 ≤ den * den ∧ den * den ≤ 10000) ∧ (0 ≤ den * den * k ∧ den * den * k ≤ 200000) ∧ (0 ≤ den * den * k * k ∧ den * den * k * k ≤ 4000000) := by
  obtain ⟨q1, q2, q3, q4⟩ := hq
  have e1 := mul_bd (a := den) (x := k + ab) (A := 100) (C := 40) (by omega) (by omega) (by omega) (by omega) (by omega)
  have e1' : 0 ≤ den * (k + ab) := Int.mul_nonneg (by omega) (by omega)
  have e2 := mul_bd2 (a := num) (x := mi) (A := 4000) (C := 10) (by omega) (by omega) (by omega) (by omega)
  have e3 := mul_bd (a := den) (x := den) (A := 100) (C := 100) (by omega) (by omega) (by omega) (by omega) (by omega)
  have e3' : 0 ≤ den * den := Int.mul_nonneg (by omega) (by omega)
  have e4 := mul_bd (a := den * den) (x := k) (A := 10000) (C := 20) (by omega) (by omega) (by omega) (by omega) (by omega)
  have e4' : 0 ≤ den * den * k := Int.mul_nonneg (by omega) (by omega)
  have e5 := mul_bd (a := den * den * k) (x := k) (A := 200000) (C := 20) (by omega) (by omega) (by omega) (by omega) (by omega)
  have e5' : 0 ≤ den * den * k * k := Int.mul_nonneg (by omega) (by omega)
  omega
theorem detRow_bd {ms ks : List Int} (he : (checkF ms ks).2 = 0) {num den : Int} (hq : Sq num den) (i : Nat) (hi : i ≤ ms.length) :
    (-(if i = 0 then 0 else 50000 ^ (i - 1)) ≤ (detRow ms ks num den i).1 ∧ (detRow ms ks num den i).1 ≤ if i = 0 then 0 else 50000 ^ (i - 1)) ∧ (-(50000 ^ i) ≤ (detRow ms ks num den i).2 ∧ (detRow ms ks num den i).2 ≤ 50000 ^ i) := by
  obtain ⟨q1, q2, q3, q4, q5⟩ := checkF_ok he
  induction i with
  | zero => simp [detRow]
  | succ i ih =>
    obtain ⟨ih1, ih2⟩ := ih (by omega)
    refine ⟨by simpa [detRow] using ih2, ?_⟩
    have e1 := own_bd q1 q5 i
    have e2 := own_bd q1 q5 (i + 1)
    have e3 := q4 i (by omega)
    obtain ⟨p1, p2, p3, p4, p5⟩ := det_parts hq e1 e2 (mi := ms[i]?.getD 0) (by omega)
    simp only [detRow, detNext]
    have f1 := mul_bd2 (a := den * (ks[i]?.getD 0 + ks[i + 1]?.getD 0) - num * ms[i]?.getD 0) (x := (detRow ms ks num den i).2) (A := 44000) (by omega) (by omega) ih2.1 ih2.2
    have hs : (50000 : Int) ^ (i + 1) = 50000 ^ i * 50000 := Int.pow_succ ..
    have hC : (0 : Int) ≤ 50000 ^ i := Int.pow_nonneg (by omega)
    by_cases hz : i = 0
    · rw [if_pos hz]
      omega
    · rw [if_neg hz]
      rw [if_neg hz] at ih1
      have f2 := mul_bd2 (a := den * den * ks[i]?.getD 0 * ks[i]?.getD 0) (x := (detRow ms ks num den i).1) (A := 4000000) (by omega) (by omega) ih1.1 ih1.2
      have hs2 : (50000 : Int) ^ i = 50000 ^ (i - 1) * 50000 := by
        have : i = (i - 1) + 1 := by omega
        rw [this, Int.pow_succ]
        simp
      have hD : (0 : Int) ≤ 50000 ^ (i - 1) := Int.pow_nonneg (by omega)
      omega
theorem detRow_num {ms ks : List Int} (he : (checkF ms ks).2 = 0) {num den : Int} (hq : Sq num den) (i : Nat) (hi : i < ms.length) :
    (-2500000000 ≤ (detRow ms ks num den i).1 ∧ (detRow ms ks num den i).1 ≤ 2500000000) ∧ (-125000000000000 ≤ (detRow ms ks num den i).2 ∧ (detRow ms ks num den i).2 ≤ 125000000000000) := by
  obtain ⟨q1, q2, q3, q4, q5⟩ := checkF_ok he
  obtain ⟨h1, h2⟩ := detRow_bd he hq i (by omega)
  have : i = 0 ∨ i = 1 ∨ i = 2 ∨ i = 3 := by omega
  rcases this with rfl | rfl | rfl | rfl <;> simp at h1 h2 <;> omega

theorem round_wide {m m' : Nat} {P : Program} {l : Nat} {f : FuncId} {tmps : Array Value} {assign body : Code} {w : World} {R : Ending → World → Prop}
    (h : RoundIn Fence.wide m P l f tmps assign body w R) : RoundIn Fence.wide m' P l f tmps assign body w R := ⟨h.1, fun c cs _ => h.2 c cs (room_wide _)⟩
/-- The memory that the closure reads. -/
def Dt (w : World) (bf bd bn : Nat) (F : Obj) (num den : Int) (v : World) : Prop :=
  w.heap.size ≤ v.heap.size ∧ (∀ k, k < w.heap.size → v.heap[k]? = w.heap[k]?) ∧ v.heap[bf]? = some F ∧ v.heap[bd]? = some (.cells #[.int .i64 den] 3) ∧ v.heap[bn]? = some (.cells #[.int .i64 num] 3)
theorem Dt.below {w v v' : World} {bf bd bn : Nat} {F : Obj} {num den : Int} (h : Dt w bf bd bn F num den v) (hb : Below v.heap.size v v') : Dt w bf bd bn F num den v' := by
  obtain ⟨h1, h2, h3, h4, h5⟩ := h
  exact ⟨Nat.le_trans h1 hb.size, fun k hk => (hb.block k (by omega)).trans (h2 k hk), blk_keep h3 hb, blk_keep h4 hb, blk_keep h5 hb⟩
theorem Dt.si {w v : World} {bf bd bn : Nat} {F : Obj} {num den : Int} (h : Dt w bf bd bn F num den v) {a : Option Addr} {n c : Nat} {xs : List Int} (hs : SI w a n c xs) : SI v a n c xs := by
  obtain ⟨h1, h2, _⟩ := h
  obtain ⟨s1, s2, s3, s4⟩ := hs
  refine ⟨s1, s2, s3, ?_⟩
  rcases s4 with s4 | ⟨b, off, ha, hc⟩
  · exact .inl s4
  · refine .inr ⟨b, off, ha, fun i hi => ?_⟩
    have h3 := hc i hi
    have hsz : i < (xs.map (Value.int .i64)).length := by omega
    rw [List.getElem?_eq_getElem hsz] at h3 ⊢
    rw [World.cell?_of_block (h2 b (cell_lt h3))]
    exact h3

theorem grown_of_below {w w' : World} (h : Below w.heap.size w w') : w.grownBy w' none := ⟨h.os, h.tape, h.output, h.size, fun k hk _ => h.block k hk⟩
theorem Dt.cells {w v : World} {bf bd bn : Nat} {x y : Value} {e : TypeId} {num den : Int} (h : Dt w bf bd bn (.cells #[x, y] e) num den v) :
    v.cell? ⟨bf, 0, none⟩ = some x ∧ v.cell? ⟨bf, 1, none⟩ = some y ∧ v.cell? ⟨bd, 0, none⟩ = some (.int .i64 den) ∧ v.cell? ⟨bn, 0, none⟩ = some (.int .i64 num) := by
  obtain ⟨_, _, h3, h4, h5⟩ := h
  exact ⟨cell_block h3 0, cell_block h3 1, cell_block h4 0, cell_block h5 0⟩

set_option maxRecDepth 100000 in
set_option maxHeartbeats 4000000 in
theorem dets_call (l : Nat) (J Jx : List Int → World → Prop) (w W : World) (a b : Option Addr) (m c d bf bd bn : Nat) (ms ks : List Int) (num den : Int) (h1 : SI w a m c ms) (h2 : SI w b m d ks) (he : (checkF ms ks).2 = 0) (hq : Sq num den)
    (hD : Dt w bf bd bn (.cells #[.slice a m c, .slice b m d] 141) num den W) (hJ : AbidesFrom W.heap.size J) (k : Nat)
    (hY : ∀ pre x W1, J pre W1 → pre.length < m → YieldAt Fence.wide k Try.prog l #[.int .i64 x] W1 fun e W' =>
      (e = .returned (.bool true) ∧ J (pre ++ [x]) W' ∧ (Dt w bf bd bn (.cells #[.slice a m c, .slice b m d] 141) num den W1 → Dt w bf bd bn (.cells #[.slice a m c, .slice b m d] 141) num den W')) ∨ (e = .returned (.bool false) ∧ Jx (pre ++ [x]) W'))
    (h0 : J [] W) :
    Calls Try.prog 147 #[.func (.yield l) #[] #[], .pointer (some ⟨bf, 0, none⟩), .pointer (some ⟨bd, 0, none⟩), .pointer (some ⟨bn, 0, none⟩)] W fun e W' => (∃ v, e = .returned v) ∧
      (J (dets ms ks num den m) W' ∨ ∃ pre, Jx pre W') := by
  obtain ⟨l1, l2⟩ : m ≤ ms.length ∧ ms.length ≤ m := by have := h1.len; omega
  obtain ⟨q1, q2, q3, q4, q5⟩ := checkF_ok he
  have Q4 := Lib.hid q4
  have Q5 := Lib.hid q5
  have HY := Lib.hid hY
  have HJ := Lib.hid hJ
  clear q4 q5 hY hJ
  have e0 := hD.cells.2.1
  go_enter Try.func147, Try.ntmps147
  go_wp2_with fail
  go_loopw [5, 6, 13] (fun x y z wr => ∃ (i : Nat), i ≤ m ∧ x = .int .i64 (detRow ms ks num den i).1 ∧ y = .int .i64 (detRow ms ks num den i).2 ∧ z = .int .i64 i ∧ J (dets ms ks num den i) wr ∧ Dt w bf bd bn (.cells #[.slice a m c, .slice b m d] 141) num den wr) (fun _ _ z _ => m - (intOf z).toNat)
  case atStart => exact ⟨0, by omega, rfl, rfl, rfl, h0, hD⟩
  case round =>
    clear h0
    obtain ⟨i, hi, rfl, rfl, rfl, hJi, hDi⟩ := hrel
    by_cases hlt : i < m
    · obtain ⟨ba, oa, rfl, hca⟩ := (hDi.si h1).at_ (by omega)
      obtain ⟨bb, ob, rfl, hcb⟩ := (hDi.si h2).at_ (by omega)
      have ea := hca i hlt
      have eb := hcb i hlt
      clear hca hcb
      obtain ⟨f0, f1, f2, f3⟩ := hDi.cells
      have hi1 : (i : Int) < (m : Int) := by omega
      have hi0 : (0 : Int) ≤ (i : Int) := by omega
      obtain ⟨⟨n1, n2⟩, n3, n4⟩ := detRow_num he hq i (by omega)
      have e1 := own_bd q1 Q5.out i
      have e2 := own_bd q1 Q5.out (i + 1)
      have e3 := Q4.out i (by omega)
      obtain ⟨⟨p1, p1'⟩, ⟨p2, p2'⟩, ⟨p3, p3'⟩, ⟨p4, p4'⟩, p5, p5'⟩ := det_parts hq e1 e2 (mi := ms[i]?.getD 0) (by omega)
      have g1 := mul_bd2 (a := den * (ks[i]?.getD 0 + ks[i + 1]?.getD 0) - num * ms[i]?.getD 0) (x := (detRow ms ks num den i).2) (A := 44000) (by omega) (by omega) n3 n4
      have g2 := mul_bd2 (a := den * den * ks[i]?.getD 0 * ks[i]?.getD 0) (x := (detRow ms ks num den i).1) (A := 4000000) (by omega) (by omega) n1 n2
      obtain ⟨g1a, g1b⟩ := g1
      obtain ⟨g2a, g2b⟩ := g2
      simp only [Int.reduceMul, Int.reduceNeg] at g1a g1b g2a g2b
      go_wp2_with fail
      refine Calmly.wp_region_mix 26 (.fl 0 <| .fl 1 <| .fl 2 <| .fl 3 <| .fl 7 <| .fl 8 <| .fl 9 <| .fl 10 <| .fl 11 <| .fl 12 <| .fl 13 <| .fl 15 <| .fl 17 <| .fl 18 <| .fl 19 <| .fl 20 <| .fl 21 <| .fl 22 <| .fl 23 <| .fl 24 <| .fl 25 <| .eff 4 <| .fl 5 <| .fl 6 <| .fl 14 <| .fl 16 <| .tail [26, 27]) (by kernel_rfl) (by kernel_rfl) ?_
      rename_i K hK
      have hK' := fun a w (h : Stop _) => hK a w h.out
      clear hK
      have hk := Below.refl wr.drew.heap.size wr.drew
      go_wp2_with (first | ((with_reducible refine Calmly.is_fl ?_); refine Calmly.mix_fl rfl ?_ (fun _ _ => ?_); (first | exact .move _ | exact .load _ _ | exact .fieldAddr _ _ _ (by kernel_rfl) | exact .assign _ | exact .binOp _ _ _ _ _ rfl | exact .indexAddr _ _ _ | exact .len _ _ (by kernel_rfl) | exact .field _ _ _ | exact .extract _ _ | exact .pick _ _ _ | exact .build _ _ | exact .slice _ _ _ _ _ | exact .unOp _ _ _ rfl | exact .index _ _ _ | exact .max _ _ _ rfl rfl | exact .min _ _ _ rfl rfl)) | ((with_reducible refine Calmly.is_gl ?_); refine Calmly.mix_gl rfl rfl rfl ?_; first | ((first | with_reducible refine Calmly.gl_tt ?_ (fun _ _ => ?_) | with_reducible refine Calmly.gl_ff ?_ (fun _ _ => ?_)); (first | exact .move _ | exact .load _ _ | exact .fieldAddr _ _ _ (by kernel_rfl) | exact .assign _ | exact .binOp _ _ _ _ _ rfl | exact .indexAddr _ _ _ | exact .len _ _ (by kernel_rfl) | exact .field _ _ _ | exact .extract _ _ | exact .pick _ _ _ | exact .build _ _ | exact .slice _ _ _ _ _ | exact .unOp _ _ _ rfl | exact .index _ _ _ | exact .max _ _ _ rfl rfl | exact .min _ _ _ rfl rfl)) | with_reducible refine Calmly.gl_tf (fun _ _ => ?_) | with_reducible refine Calmly.gl_ft (fun _ _ => ?_)) | ((with_reducible refine Calmly.is_eff ?_); refine Calmly.mix_eff rfl (fun _ _ => ?_)) | ((with_reducible refine Calmly.is_gf ?_); refine Calmly.mix_gf rfl rfl rfl ?_; first | with_reducible refine Calmly.gf_tt (fun _ _ => ?_) | with_reducible refine Calmly.gf_ff (fun _ _ => ?_) | with_reducible refine Calmly.gf_tf (kept_of hk) (fun _ _ => ?_) | with_reducible refine Calmly.gf_ft (kept_of hk) (fun _ _ => ?_)) | ((with_reducible refine Calmly.is_tail ?_); first | refine Calmly.mix_tail_nil ?_ | refine Calmly.mix_tail rfl (fun _ _ => ?_)) | ((with_reducible refine Calmly.is_kept ?_); refine ⟨kept_of hk, ?_⟩) | (with_reducible refine Calmly.mix_alt ?_ ?_))
      refine (above_any (some ⟨ba, oa, none⟩) (some ⟨bb, ob, none⟩) m c m d ks i _ (hDi.si h2).drew (by omega) (by omega)).mono ?_
      rintro e w3 ⟨rfl, hb3⟩
      replace hk := step_of hk hb3
      have hDj := Dt.below (v := wr.drew) hDi hb3
      have hJj := HJ.out _ wr w3 none hJi (grown_of_below ((Below.refl wr.heap.size wr).drew.trans hb3)) (fun r e => by cases e)
      have hsz3 := hb3.size
      go_wp2_with (first | ((with_reducible refine Calmly.is_fl ?_); refine Calmly.mix_fl rfl ?_ (fun _ _ => ?_); (first | exact .move _ | exact .load _ _ | exact .fieldAddr _ _ _ (by kernel_rfl) | exact .assign _ | exact .binOp _ _ _ _ _ rfl | exact .indexAddr _ _ _ | exact .len _ _ (by kernel_rfl) | exact .field _ _ _ | exact .extract _ _ | exact .pick _ _ _ | exact .build _ _ | exact .slice _ _ _ _ _ | exact .unOp _ _ _ rfl | exact .index _ _ _ | exact .max _ _ _ rfl rfl | exact .min _ _ _ rfl rfl)) | ((with_reducible refine Calmly.is_gl ?_); refine Calmly.mix_gl rfl rfl rfl ?_; first | ((first | with_reducible refine Calmly.gl_tt ?_ (fun _ _ => ?_) | with_reducible refine Calmly.gl_ff ?_ (fun _ _ => ?_)); (first | exact .move _ | exact .load _ _ | exact .fieldAddr _ _ _ (by kernel_rfl) | exact .assign _ | exact .binOp _ _ _ _ _ rfl | exact .indexAddr _ _ _ | exact .len _ _ (by kernel_rfl) | exact .field _ _ _ | exact .extract _ _ | exact .pick _ _ _ | exact .build _ _ | exact .slice _ _ _ _ _ | exact .unOp _ _ _ rfl | exact .index _ _ _ | exact .max _ _ _ rfl rfl | exact .min _ _ _ rfl rfl)) | with_reducible refine Calmly.gl_tf (fun _ _ => ?_) | with_reducible refine Calmly.gl_ft (fun _ _ => ?_)) | ((with_reducible refine Calmly.is_eff ?_); refine Calmly.mix_eff rfl (fun _ _ => ?_)) | ((with_reducible refine Calmly.is_gf ?_); refine Calmly.mix_gf rfl rfl rfl ?_; first | with_reducible refine Calmly.gf_tt (fun _ _ => ?_) | with_reducible refine Calmly.gf_ff (fun _ _ => ?_) | with_reducible refine Calmly.gf_tf (kept_of hk) (fun _ _ => ?_) | with_reducible refine Calmly.gf_ft (kept_of hk) (fun _ _ => ?_)) | ((with_reducible refine Calmly.is_tail ?_); first | refine Calmly.mix_tail_nil ?_ | refine Calmly.mix_tail rfl (fun _ _ => ?_)) | ((with_reducible refine Calmly.is_kept ?_); refine ⟨kept_of hk, ?_⟩) | (with_reducible refine Calmly.mix_alt ?_ ?_))
      refine ⟨?_⟩
      refine wp_seq_in 5 (fun K2 hK2 => ?_)
      have ea3 := cell_keep (w := wr.drew) ea hb3
      have eb3 := cell_keep (w := wr.drew) eb hb3
      obtain ⟨f0', f1', f2', f3'⟩ := hDj.cells
      clear ea eb f0 f1 f2 f3 hk hb3
      by_cases hz : i = 0
      · have hz1 : ((i : Int) == 0) = true := by simp [hz]
        have hx : (detRow ms ks num den (i + 1)).2 = (den * (ks[i]?.getD 0 + ks[i + 1]?.getD 0) - num * ms[i]?.getD 0) * (detRow ms ks num den i).2 := by
          simp only [detRow, detNext]
          rw [if_pos hz]
        have HX := Lib.hid hx
        clear hx hz
        go_wp2_with fail
        refine Calmly.wp_region_mix 16 (.fl 0 <| .fl 1 <| .fl 2 <| .fl 3 <| .fl 7 <| .fl 8 <| .fl 9 <| .fl 10 <| .fl 11 <| .fl 12 <| .fl 13 <| .fl 15 <| .eff 4 <| .fl 5 <| .fl 6 <| .fl 14 <| .tail [16, 17]) (by kernel_rfl) (by kernel_rfl) ?_
        have hk := Below.refl w3.drew.heap.size w3.drew
        go_wp2_with (first | ((with_reducible refine Calmly.is_fl ?_); refine Calmly.mix_fl rfl ?_ (fun _ _ => ?_); (first | exact .move _ | exact .load _ _ | exact .fieldAddr _ _ _ (by kernel_rfl) | exact .assign _ | exact .binOp _ _ _ _ _ rfl | exact .indexAddr _ _ _ | exact .len _ _ (by kernel_rfl) | exact .field _ _ _ | exact .extract _ _ | exact .pick _ _ _ | exact .build _ _ | exact .slice _ _ _ _ _ | exact .unOp _ _ _ rfl | exact .index _ _ _ | exact .max _ _ _ rfl rfl | exact .min _ _ _ rfl rfl)) | ((with_reducible refine Calmly.is_gl ?_); refine Calmly.mix_gl rfl rfl rfl ?_; first | ((first | with_reducible refine Calmly.gl_tt ?_ (fun _ _ => ?_) | with_reducible refine Calmly.gl_ff ?_ (fun _ _ => ?_)); (first | exact .move _ | exact .load _ _ | exact .fieldAddr _ _ _ (by kernel_rfl) | exact .assign _ | exact .binOp _ _ _ _ _ rfl | exact .indexAddr _ _ _ | exact .len _ _ (by kernel_rfl) | exact .field _ _ _ | exact .extract _ _ | exact .pick _ _ _ | exact .build _ _ | exact .slice _ _ _ _ _ | exact .unOp _ _ _ rfl | exact .index _ _ _ | exact .max _ _ _ rfl rfl | exact .min _ _ _ rfl rfl)) | with_reducible refine Calmly.gl_tf (fun _ _ => ?_) | with_reducible refine Calmly.gl_ft (fun _ _ => ?_)) | ((with_reducible refine Calmly.is_eff ?_); refine Calmly.mix_eff rfl (fun _ _ => ?_)) | ((with_reducible refine Calmly.is_gf ?_); refine Calmly.mix_gf rfl rfl rfl ?_; first | with_reducible refine Calmly.gf_tt (fun _ _ => ?_) | with_reducible refine Calmly.gf_ff (fun _ _ => ?_) | with_reducible refine Calmly.gf_tf (kept_of hk) (fun _ _ => ?_) | with_reducible refine Calmly.gf_ft (kept_of hk) (fun _ _ => ?_)) | ((with_reducible refine Calmly.is_tail ?_); first | refine Calmly.mix_tail_nil ?_ | refine Calmly.mix_tail rfl (fun _ _ => ?_)) | ((with_reducible refine Calmly.is_kept ?_); refine ⟨kept_of hk, ?_⟩) | (with_reducible refine Calmly.mix_alt ?_ ?_))
        refine (above_any (some ⟨ba, oa, none⟩) (some ⟨bb, ob, none⟩) m c m d ks i _ (hDj.si h2).drew (by omega) (by omega)).mono ?_
        rintro e w4 ⟨rfl, hb4⟩
        replace hk := step_of hk hb4
        have hDk := Dt.below (v := w3.drew) hDj hb4
        have hJk := HJ.out _ w3 w4 none hJj (grown_of_below ((Below.refl w3.heap.size w3).drew.trans hb4)) (fun r e => by cases e)
        have hsz4 := hb4.size
        go_wp2_with (first | ((with_reducible refine Calmly.is_fl ?_); refine Calmly.mix_fl rfl ?_ (fun _ _ => ?_); (first | exact .move _ | exact .load _ _ | exact .fieldAddr _ _ _ (by kernel_rfl) | exact .assign _ | exact .binOp _ _ _ _ _ rfl | exact .indexAddr _ _ _ | exact .len _ _ (by kernel_rfl) | exact .field _ _ _ | exact .extract _ _ | exact .pick _ _ _ | exact .build _ _ | exact .slice _ _ _ _ _ | exact .unOp _ _ _ rfl | exact .index _ _ _ | exact .max _ _ _ rfl rfl | exact .min _ _ _ rfl rfl)) | ((with_reducible refine Calmly.is_gl ?_); refine Calmly.mix_gl rfl rfl rfl ?_; first | ((first | with_reducible refine Calmly.gl_tt ?_ (fun _ _ => ?_) | with_reducible refine Calmly.gl_ff ?_ (fun _ _ => ?_)); (first | exact .move _ | exact .load _ _ | exact .fieldAddr _ _ _ (by kernel_rfl) | exact .assign _ | exact .binOp _ _ _ _ _ rfl | exact .indexAddr _ _ _ | exact .len _ _ (by kernel_rfl) | exact .field _ _ _ | exact .extract _ _ | exact .pick _ _ _ | exact .build _ _ | exact .slice _ _ _ _ _ | exact .unOp _ _ _ rfl | exact .index _ _ _ | exact .max _ _ _ rfl rfl | exact .min _ _ _ rfl rfl)) | with_reducible refine Calmly.gl_tf (fun _ _ => ?_) | with_reducible refine Calmly.gl_ft (fun _ _ => ?_)) | ((with_reducible refine Calmly.is_eff ?_); refine Calmly.mix_eff rfl (fun _ _ => ?_)) | ((with_reducible refine Calmly.is_gf ?_); refine Calmly.mix_gf rfl rfl rfl ?_; first | with_reducible refine Calmly.gf_tt (fun _ _ => ?_) | with_reducible refine Calmly.gf_ff (fun _ _ => ?_) | with_reducible refine Calmly.gf_tf (kept_of hk) (fun _ _ => ?_) | with_reducible refine Calmly.gf_ft (kept_of hk) (fun _ _ => ?_)) | ((with_reducible refine Calmly.is_tail ?_); first | refine Calmly.mix_tail_nil ?_ | refine Calmly.mix_tail rfl (fun _ _ => ?_)) | ((with_reducible refine Calmly.is_kept ?_); refine ⟨kept_of hk, ?_⟩) | (with_reducible refine Calmly.mix_alt ?_ ?_))
        obtain ⟨fn, tmps, assign, body, hy, hR⟩ := HY.out _ ((den * (ks[i]?.getD 0 + ks[i + 1]?.getD 0) - num * ms[i]?.getD 0) * (detRow ms ks num den i).2) w4 hJk (by rw [dets_len]; exact hlt)
        go_wp2_with fail
        gi_wp2
        refine (round_wide hR).mono ?_
        rintro e W5 (⟨rfl, hJ5, hk5⟩ | ⟨rfl, hx5⟩)
        · gi_wp2
          go_wp2_with fail
          go_roundw
          case rel => exact ⟨i + 1, by omega, rfl, by rw [HX.out], by go_num, by rw [dets_succ, HX.out]; exact hJ5, hk5 hDk⟩
          case measure => simp [intOf]; omega
        · gi_wp2
          refine bodyPost_ret (results_none rfl _ _ _) rfl ?_
          exact ⟨⟨_, rfl⟩, .inr ⟨_, hx5⟩⟩
      · have hz1 : ((i : Int) == 0) = false := by simp [hz]
        have hx : (detRow ms ks num den (i + 1)).2 = (den * (ks[i]?.getD 0 + ks[i + 1]?.getD 0) - num * ms[i]?.getD 0) * (detRow ms ks num den i).2 - den * den * ks[i]?.getD 0 * ks[i]?.getD 0 * (detRow ms ks num den i).1 := by
          simp only [detRow, detNext]
          rw [if_neg hz]
        have HX := Lib.hid hx
        clear hx hz
        obtain ⟨fn, tmps, assign, body, hy, hR⟩ := HY.out _ ((den * (ks[i]?.getD 0 + ks[i + 1]?.getD 0) - num * ms[i]?.getD 0) * (detRow ms ks num den i).2 - den * den * ks[i]?.getD 0 * ks[i]?.getD 0 * (detRow ms ks num den i).1) w3 hJj (by rw [dets_len]; exact hlt)
        go_wp2_with fail
        gi_wp2
        refine (round_wide hR).mono ?_
        rintro e W5 (⟨rfl, hJ5, hk5⟩ | ⟨rfl, hx5⟩)
        · gi_wp2
          go_wp2_with fail
          go_roundw
          case rel => exact ⟨i + 1, by omega, rfl, by rw [HX.out], by go_num, by rw [dets_succ, HX.out]; exact hJ5, hk5 hDj⟩
          case measure => simp [intOf]; omega
        · gi_wp2
          refine bodyPost_ret (results_none rfl _ _ _) rfl ?_
          exact ⟨⟨_, rfl⟩, .inr ⟨_, hx5⟩⟩
    · have hle : (m : Int) ≤ (i : Int) := by omega
      obtain rfl : i = m := by omega
      go_wp2_with fail
      go_end0
      exact ⟨⟨_, rfl⟩, .inl hJi⟩
end Go.Proofs.Ytmaidjankakppaa

namespace Go.Proofs.Ytmaidjankakppaa
open Go.RowKit Go.Shelf
attribute [local go_sem] Oper.semAt_some
open Calmly (Kept)

set_option maxHeartbeats 1000000 in
theorem determinants_any (x y : Value) (num den : Int) (w : World) :
    Calls Try.prog 132 #[.agg #[x, y], .int .i64 num, .int .i64 den] w fun e w' => e = .returned (.func (.func 147) #[] #[.pointer (some ⟨w.heap.size, 0, none⟩), .pointer (some ⟨w.heap.size + 2, 0, none⟩), .pointer (some ⟨w.heap.size + 1, 0, none⟩)]) ∧ w' = ((w.alloc (.cells #[x, y] 141)).alloc (.cells #[.int .i64 num] 3)).alloc (.cells #[.int .i64 den] 3) := by
  go_enter Try.func132, Try.ntmps132
  go_wp2
  go_ret
  exact ⟨rfl, rfl⟩

/-- The count, the last sign, the last determinant. -/
def bStep (st : Int × Int × Int) (x : Int) : Int × Int × Int := if x.sign ≠ 0 ∧ x.sign ≠ st.2.1 then (st.1 + 1, x.sign, x) else (st.1, st.2.1, x)
def bAll (l : List Int) : Int × Int × Int := l.foldl bStep (0, 1, 1)
theorem bAll_snoc (l : List Int) (x : Int) : bAll (l ++ [x]) = bStep (bAll l) x := by simp [bAll]
theorem bAll_bd (l : List Int) : 0 ≤ (bAll l).1 ∧ (bAll l).1 ≤ l.length := by
  unfold bAll
  suffices h : ∀ (st : Int × Int × Int) (n : Nat), 0 ≤ st.1 ∧ st.1 ≤ n → 0 ≤ (l.foldl bStep st).1 ∧ (l.foldl bStep st).1 ≤ (n + l.length : Nat) by
    have := h (0, 1, 1) 0 ⟨by decide, by decide⟩
    simpa using this
  induction l with
  | nil => intro st n h; simpa using h
  | cons x l ih =>
    intro st n h
    have := ih (bStep st x) (n + 1) (by unfold bStep; split <;> simp <;> omega)
    rw [List.foldl_cons]
    simp only [List.length_cons]
    rw [show n + (l.length + 1) = n + 1 + l.length by omega]
    exact this
def belowF (ms ks : List Int) (num den : Int) : Int := (bAll (dets ms ks num den ms.length)).1
def modeF (ms ks : List Int) (num den : Int) : Bool := (bAll (dets ms ks num den ms.length)).2.2 == 0

/-- Blocks laid one after the other. -/
theorem allocs_below (os : List Obj) (w : World) : Below w.heap.size w (os.foldl World.alloc w) ∧ (os.foldl World.alloc w).heap.size = w.heap.size + os.length := by
  induction os generalizing w with
  | nil => exact ⟨Below.refl _ _, rfl⟩
  | cons o os ih =>
    obtain ⟨h1, h2⟩ := ih (w.alloc o)
    have h3 : Below w.heap.size w (w.alloc o) := (Below.refl _ _).alloc (Nat.le_refl _) _
    refine ⟨h3.trans (h1.mono (by simp)), ?_⟩
    rw [List.foldl_cons, h2]
    simp
    omega
theorem allocs_at (os : List Obj) (w : World) (j : Nat) (hj : j < os.length) : (os.foldl World.alloc w).heap[w.heap.size + j]? = os[j]? := by
  induction os generalizing w j with
  | nil => simp at hj
  | cons o os ih =>
    rw [List.foldl_cons]
    cases j with
    | zero => exact blk_keep (alloc_new w o) (allocs_below os _).1
    | succ j =>
      have := ih (w.alloc o) j (by simpa using hj)
      simp only [World.size_alloc] at this
      rw [List.getElem?_cons_succ, ← this]
      congr 1
      omega
theorem own_blk {β : Type} (B b : Nat) (f : β → Obj) (hf : ∀ s, (f s).isCells = true) : OwnFrom B (fun s W => W.heap[b]? = some (f s)) := fun s X Y row hs hg hr => by
  refine (hg.block b (Array.getElem?_eq_some_iff.1 hs).1 ?_).trans hs
  intro e
  obtain ⟨_, o, ho, hc⟩ := hr b e.symm
  rw [hs] at ho
  cases ho
  rw [hf] at hc
  cases hc
theorem own_pure {β : Type} (B : Nat) (p : β → Prop) : OwnFrom B (fun s _ => p s) := fun _ _ _ _ hs _ _ => hs
/-- What the caller's own cells hold. -/
def Cd (w : World) (s : Nat) (st : Int × Int × Int) (W : World) : Prop :=
  ((W.heap[s + 1]? = some (.cells #[.int .i64 st.1] 3) ∧ W.heap[s + 1 + 1]? = some (.cells #[.int .i64 st.2.1] 3)) ∧ W.heap[s + 1 + 1 + 1]? = some (.cells #[.int .i64 st.2.2] 3)) ∧ Below s w W
theorem own_cd {β : Type} (w : World) (B : Nat) (f : β → Int × Int × Int) (hB : w.heap.size ≤ B) : OwnFrom B (fun s W => Cd w w.heap.size (f s) W) :=
  OwnFrom.and (OwnFrom.and (OwnFrom.and (own_blk B _ (fun s => .cells #[.int .i64 (f s).1] 3) (fun _ => rfl)) (own_blk B _ (fun s => .cells #[.int .i64 (f s).2.1] 3) (fun _ => rfl))) (own_blk B _ (fun s => .cells #[.int .i64 (f s).2.2] 3) (fun _ => rfl))) (ownFrom_below (Nat.le_refl _) hB)

theorem Dt.set {w v : World} {bf bd bn : Nat} {F : Obj} {num den : Int} (h : Dt w bf bd bn F num den v) {r o : Nat} (h1 : w.heap.size ≤ r) (h2 : r < bf) (h3 : r < bd) (h4 : r < bn) (x : Value) : Dt w bf bd bn F num den (v.setCell ⟨r, o, none⟩ x) := by
  obtain ⟨d1, d2, d3, d4, d5⟩ := h
  have hs : (v.setCell ⟨r, o, none⟩ x).heap.size = v.heap.size := by simp [World.setCell]
  have hk : ∀ k, k ≠ r → (v.setCell ⟨r, o, none⟩ x).heap[k]? = v.heap[k]? := fun k hk => Below.heap_setCell _ _ _ _ hk
  exact ⟨by omega, fun k hk' => (hk k (by omega)).trans (d2 k hk'), (hk _ (by omega)).trans d3, (hk _ (by omega)).trans d4, (hk _ (by omega)).trans d5⟩
theorem Dt.put {w v : World} {bf bd bn : Nat} {F : Obj} {num den : Int} (h : Dt w bf bd bn F num den v) {l : Nat} (h1 : w.heap.size ≤ l) (h2 : bf < l) (h3 : bd < l) (h4 : bn < l) (o : Obj) : Dt w bf bd bn F num den (v.putObj l o) := by
  obtain ⟨d1, d2, d3, d4, d5⟩ := h
  have hk : ∀ k, k ≠ l → (v.putObj l o).heap[k]? = v.heap[k]? := fun k hk => World.putObj_heap_other hk
  exact ⟨by simpa using d1, fun k hk' => (hk k (by omega)).trans (d2 k hk'), (hk _ (by omega)).trans d3, (hk _ (by omega)).trans d4, (hk _ (by omega)).trans d5⟩
theorem blk_set {W : World} {b : Nat} {u : Value} {t : TypeId} (h : W.heap[b]? = some (.cells #[u] t)) (v : Value) : (W.setCell ⟨b, 0, none⟩ v).heap[b]? = some (.cells #[v] t) := by
  simp [World.setCell, Array.getElem?_modify, h]
theorem blk_other {W : World} {b r : Nat} {o : Obj} (h : W.heap[b]? = some o) (hne : b ≠ r) (v : Value) : (W.setCell ⟨r, 0, none⟩ v).heap[b]? = some o := (Below.heap_setCell _ _ _ _ hne).trans h
theorem Cd.set3 {w W : World} {st : Int × Int × Int} (h : Cd w w.heap.size st W) (x : Int) : Cd w w.heap.size (st.1, st.2.1, x) (W.setCell ⟨w.heap.size + 1 + 1 + 1, 0, none⟩ (.int .i64 x)) := by
  obtain ⟨⟨⟨h1, h2⟩, h3⟩, hb⟩ := h
  exact ⟨⟨⟨blk_other h1 (by omega) _, blk_other h2 (by omega) _⟩, blk_set h3 _⟩, hb.setCell (by show _ ≤ w.heap.size + 1 + 1 + 1; omega) _⟩
theorem Cd.set12 {w W : World} {st : Int × Int × Int} (h : Cd w w.heap.size st W) (x y : Int) : Cd w w.heap.size (x, y, st.2.2) ((W.setCell ⟨w.heap.size + 1, 0, none⟩ (.int .i64 x)).setCell ⟨w.heap.size + 1 + 1, 0, none⟩ (.int .i64 y)) := by
  obtain ⟨⟨⟨h1, h2⟩, h3⟩, hb⟩ := h
  exact ⟨⟨⟨blk_other (blk_set h1 _) (by omega) _, blk_set (blk_other h2 (by omega) _) _⟩, blk_other (blk_other h3 (by omega) _) (by omega) _⟩, (hb.setCell (by show _ ≤ w.heap.size + 1; omega) _).setCell (by show _ ≤ w.heap.size + 1 + 1; omega) _⟩
theorem Cd.cells {w W : World} {st : Int × Int × Int} (h : Cd w w.heap.size st W) : W.cell? ⟨w.heap.size + 1, 0, none⟩ = some (.int .i64 st.1) ∧ W.cell? ⟨w.heap.size + 1 + 1, 0, none⟩ = some (.int .i64 st.2.1) ∧ W.cell? ⟨w.heap.size + 1 + 1 + 1, 0, none⟩ = some (.int .i64 st.2.2) ∧
    W.frozen? ⟨w.heap.size + 1, 0, none⟩ = false ∧ W.frozen? ⟨w.heap.size + 1 + 1, 0, none⟩ = false ∧ W.frozen? ⟨w.heap.size + 1 + 1 + 1, 0, none⟩ = false := by
  obtain ⟨⟨⟨h1, h2⟩, h3⟩, _⟩ := h
  exact ⟨cell_block h1 0, cell_block h2 0, cell_block h3 0, frozen_block h1 0, frozen_block h2 0, frozen_block h3 0⟩

set_option maxRecDepth 100000 in
set_option maxHeartbeats 4000000 in
theorem below_any (a b : Option Addr) (m c d : Nat) (ms ks : List Int) (num den : Int) (w : World) (h1 : SI w a m c ms) (h2 : SI w b m d ks) (he : (checkF ms ks).2 = 0) (hq : Sq num den) :
    Calls Try.prog 103 #[.agg #[.slice a m c, .slice b m d], .int .i64 num, .int .i64 den] w fun e w' => e = .returned (.tuple #[.int .i64 (belowF ms ks num den), .bool (modeF ms ks num den)]) ∧ Below w.heap.size w w' := by
  refine (callsIn_wide (n := 5)).1 ?_
  refine callsIn_of_wp_marks Try.func103 rfl trivial ?_ rfl
  simp only [Try.ntmps103, List.size_toArray, List.length_cons, List.length_nil, Nat.reduceAdd, Nat.reduceSub, Array.replicate_succ, Array.replicate_zero, List.push_toArray, List.append_toArray, List.nil_append, List.cons_append]
  gi_wp2_with (refine ⟨trivial, ?_⟩; gi_at_call 132; refine (callsIn_wide.2 (determinants_any _ _ _ _ _)).mono ?_; rintro e w' ⟨rfl, rfl⟩)
  obtain ⟨V, hV⟩ : ∃ V, (((((((w.alloc (.cells #[.slice a m c, .slice b m d] 141)).alloc (.cells #[.int .i64 0] 3)).alloc (.cells #[.int .i64 1] 3)).alloc (.cells #[.int .i64 1] 3)).alloc (.cells #[.slice a m c, .slice b m d] 141)).alloc (.cells #[.int .i64 num] 3)).alloc (.cells #[.int .i64 den] 3)) = V := ⟨_, rfl⟩
  have hVl : ([(.cells #[.slice a m c, .slice b m d] 141), (.cells #[.int .i64 0] 3), (.cells #[.int .i64 1] 3), (.cells #[.int .i64 1] 3), (.cells #[.slice a m c, .slice b m d] 141), (.cells #[.int .i64 num] 3), (.cells #[.int .i64 den] 3)] : List Obj).foldl World.alloc w = V := hV
  obtain ⟨hVb, hVs⟩ := allocs_below [(.cells #[.slice a m c, .slice b m d] 141), (.cells #[.int .i64 0] 3), (.cells #[.int .i64 1] 3), (.cells #[.int .i64 1] 3), (.cells #[.slice a m c, .slice b m d] 141), (.cells #[.int .i64 num] 3), (.cells #[.int .i64 den] 3)] w
  have hVa := allocs_at [(.cells #[.slice a m c, .slice b m d] 141), (.cells #[.int .i64 0] 3), (.cells #[.int .i64 1] 3), (.cells #[.int .i64 1] 3), (.cells #[.slice a m c, .slice b m d] 141), (.cells #[.int .i64 num] 3), (.cells #[.int .i64 den] 3)] w
  rw [hVl] at hVb hVs hVa
  clear hVl
  have hv1 := hVa 1 (by simp)
  have hv2 := hVa 2 (by simp)
  have hv3 := hVa 3 (by simp)
  have hv4 := hVa 4 (by simp)
  have hv5 := hVa 5 (by simp)
  have hv6 := hVa 6 (by simp)
  simp only [List.length_cons, List.length_nil, Nat.reduceAdd] at hVs
  clear hVa
  rw [hV]
  clear hV
  have hDV : Dt w (w.heap.size + 1 + 1 + 1 + 1) (w.heap.size + 1 + 1 + 1 + 1 + 2) (w.heap.size + 1 + 1 + 1 + 1 + 1) (.cells #[.slice a m c, .slice b m d] 141) num den V := ⟨by omega, hVb.block, hv4, hv6, hv5⟩
  have hCV : Cd w w.heap.size (bAll []) V := ⟨⟨⟨hv1, hv2⟩, hv3⟩, hVb⟩
  clear hv1 hv2 hv3 hv4 hv5 hv6
  obtain ⟨l1, l2⟩ : m ≤ ms.length ∧ ms.length ≤ m := by have := h1.len; omega
  have hq0 : m ≤ 4 := by have := (checkF_ok he).2.2.1; omega
  refine range_mid (gf := 147) (N := m) (m := 4) rfl (enters_of Try.func147 (by kernel_rfl) rfl) (enc := fun x : Int => #[Value.int .i64 x])
    (Kp := fun A B => Dt w (w.heap.size + 1 + 1 + 1 + 1) (w.heap.size + 1 + 1 + 1 + 1 + 2) (w.heap.size + 1 + 1 + 1 + 1 + 1) (.cells #[.slice a m c, .slice b m d] 141) num den A → Dt w (w.heap.size + 1 + 1 + 1 + 1) (w.heap.size + 1 + 1 + 1 + 1 + 2) (w.heap.size + 1 + 1 + 1 + 1 + 1) (.cells #[.slice a m c, .slice b m d] 141) num den B)
    (S := fun xs => xs = dets ms ks num den m) ?_ (fun h k d => k (h d)) ?_ (fun _ => rfl)
    (fun pre W => Cd w w.heap.size (bAll pre) W) (own_cd w _ _ (by omega)) hCV
    (fun pre x a' W => (Cd w w.heap.size ((bAll pre).1, (bAll pre).2.1, x) W ∧ pre.length < m) ∧ a' = ⟨#[Value.agg #[Value.slice a m c, Value.slice b m d], Value.int IntKind.i64 num, Value.int IntKind.i64 den,
          Value.pointer (some { block := w.heap.size, off := 0 }), undef, undef, Value.int IntKind.i64 0,
          Value.bool false, Value.pointer (some { block := w.heap.size + 1, off := 0 }),
          Value.pointer (some { block := w.heap.size + 1 + 1, off := 0 }),
          Value.pointer (some { block := w.heap.size + 1 + 1 + 1, off := 0 }), undef,
          Value.agg #[Value.slice a m c, Value.slice b m d], Value.int IntKind.i64 num, Value.int IntKind.i64 den,
          Value.func (Fn.func 147) #[]
            #[Value.pointer (some { block := w.heap.size + 1 + 1 + 1 + 1, off := 0 }),
              Value.pointer (some { block := w.heap.size + 1 + 1 + 1 + 1 + 2, off := 0 }),
              Value.pointer (some { block := w.heap.size + 1 + 1 + 1 + 1 + 1, off := 0 })],
          .int .i64 x, undef, undef, undef, undef, undef, undef, undef, undef, undef, undef, undef, undef, undef, undef,
          undef], []⟩)
    (fun pre x a' => OwnFrom.and (OwnFrom.and (own_cd w _ _ (by omega)) (own_pure _ (fun _ => pre.length < m))) (own_pure _ (fun _ => a' = _))) ?assign ?body ?done
  · intro l J W hW hJ hY hJ0
    refine (dets_call l J (fun _ _ => False) w W a b m c d _ _ _ ms ks num den h1 h2 he hq (hDV.below hW) hJ 4 (fun pre x W1 hj hl => (hY pre x W1 hj hl).mono (fun e W' h => .inl ⟨h.1, h.2.1, h.2.2⟩)) hJ0).mono ?_
    rintro e W' ⟨hv, h | ⟨_, h⟩⟩
    · exact ⟨hv, _, rfl, h⟩
    · exact h.elim
  · intro W l o o' hl ho hc hd
    exact hd.put (by omega) (by omega) (by omega) (by omega) _
  case assign =>
    rintro l pre x W K hi hlen hK
    obtain ⟨c1, c2, c3, r1, r2, r3⟩ := hi.cells
    gi_wp2
    exact hK _ _ (KeepsOthers.setCell _ _ _) (fun h => h.set (by omega) (by omega) (by omega) (by omega) _) ⟨⟨hi.set3 x, hlen⟩, rfl⟩
  case body =>
    rintro l pre x a' W ⟨⟨hC, hlen⟩, rfl⟩
    obtain ⟨c1, c2, c3, r1, r2, r3⟩ := hC.cells
    have hbd := bAll_bd pre
    obtain ⟨st, hst⟩ : ∃ st, bAll pre = st := ⟨_, rfl⟩
    rw [hst] at hC hbd c1 c2 c3
    obtain ⟨ct, la, dd⟩ := st
    dsimp only at hC hbd c1 c2 c3
    have hI : Cd w w.heap.size (bAll (pre ++ [x])) = Cd w w.heap.size (bStep (ct, la, dd) x) := by rw [bAll_snoc, hst]
    rw [hI]
    obtain ⟨sg, hs⟩ : ∃ sg, x.sign = sg := ⟨_, rfl⟩
    have hI2 : bStep (ct, la, dd) x = if sg ≠ 0 ∧ sg ≠ la then (ct + 1, sg, x) else (ct, la, x) := by rw [← hs]; rfl
    have hcall : Calls Try.prog 123 #[.int .i64 x] W fun e w' => e = .returned (.int .i64 sg) ∧ W = w' := by rw [← hs]; exact sign_any x W
    rw [hI2]
    clear hI hI2 hst hs
    by_cases hx : sg = 0
    · rw [if_neg (fun h => h.1 hx)]
      have hx1 : (sg != 0) = false := by simp [hx]
      clear hx
      gi_wp2_with (refine ⟨trivial, ?_⟩; gi_at_call 123; refine (CallsIn.inRound l (callsIn_wide.2 hcall)).mono ?_; rintro e w' ⟨rfl, rfl⟩)
      exact KeepsOthers.refl _
    · have hx1 : (sg != 0) = true := by simpa using hx
      by_cases hy : sg = la
      · rw [if_neg (fun h => h.2 hy)]
        have hy1 : (sg != la) = false := by simp [hy]
        clear hx hy
        gi_wp2_with (refine ⟨trivial, ?_⟩; gi_at_call 123; refine (CallsIn.inRound l (callsIn_wide.2 hcall)).mono ?_; rintro e w' ⟨rfl, rfl⟩)
        exact KeepsOthers.refl _
      · have hy1 : (sg != la) = true := by simpa using hy
        rw [if_pos ⟨hx, hy⟩]
        clear hx hy
        gi_wp2_with (refine ⟨trivial, ?_⟩; gi_at_call 123; refine (CallsIn.inRound l (callsIn_wide.2 hcall)).mono ?_; rintro e w' ⟨rfl, rfl⟩)
        exact ⟨(KeepsOthers.setCell _ _ _).trans (KeepsOthers.setCell _ _ _), fun h => (h.set (by omega) (by omega) (by omega) (by omega) _).set (by omega) (by omega) (by omega) (by omega) _, hC.set12 _ _⟩
  case done =>
    rintro D xs W hD rfl hi hK
    obtain ⟨c1, c2, c3, r1, r2, r3⟩ := hi.cells
    gi_wp2
    refine wpIn_wide.2 ?_
    refine Calmly.wp_region_mix 4 (.fl 0 <| .fl 1 <| .fl 2 <| .fl 3 <| .tail [4]) (by kernel_rfl) (by kernel_rfl) ?_
    have hk := Below.refl W.drew.heap.size W.drew
    go_wp2_with (first | ((with_reducible refine Calmly.is_fl ?_); refine Calmly.mix_fl rfl ?_ (fun _ _ => ?_); (first | exact .move _ | exact .load _ _ | exact .fieldAddr _ _ _ (by kernel_rfl) | exact .assign _ | exact .binOp _ _ _ _ _ rfl | exact .indexAddr _ _ _ | exact .len _ _ (by kernel_rfl) | exact .field _ _ _ | exact .extract _ _ | exact .pick _ _ _ | exact .build _ _ | exact .slice _ _ _ _ _ | exact .unOp _ _ _ rfl | exact .index _ _ _ | exact .max _ _ _ rfl rfl | exact .min _ _ _ rfl rfl)) | ((with_reducible refine Calmly.is_gl ?_); refine Calmly.mix_gl rfl rfl rfl ?_; first | ((first | with_reducible refine Calmly.gl_tt ?_ (fun _ _ => ?_) | with_reducible refine Calmly.gl_ff ?_ (fun _ _ => ?_)); (first | exact .move _ | exact .load _ _ | exact .fieldAddr _ _ _ (by kernel_rfl) | exact .assign _ | exact .binOp _ _ _ _ _ rfl | exact .indexAddr _ _ _ | exact .len _ _ (by kernel_rfl) | exact .field _ _ _ | exact .extract _ _ | exact .pick _ _ _ | exact .build _ _ | exact .slice _ _ _ _ _ | exact .unOp _ _ _ rfl | exact .index _ _ _ | exact .max _ _ _ rfl rfl | exact .min _ _ _ rfl rfl)) | with_reducible refine Calmly.gl_tf (fun _ _ => ?_) | with_reducible refine Calmly.gl_ft (fun _ _ => ?_)) | ((with_reducible refine Calmly.is_eff ?_); refine Calmly.mix_eff rfl (fun _ _ => ?_)) | ((with_reducible refine Calmly.is_gf ?_); refine Calmly.mix_gf rfl rfl rfl ?_; first | with_reducible refine Calmly.gf_tt (fun _ _ => ?_) | with_reducible refine Calmly.gf_ff (fun _ _ => ?_) | with_reducible refine Calmly.gf_tf (kept_of hk) (fun _ _ => ?_) | with_reducible refine Calmly.gf_ft (kept_of hk) (fun _ _ => ?_)) | ((with_reducible refine Calmly.is_tail ?_); first | refine Calmly.mix_tail_nil ?_ | refine Calmly.mix_tail rfl (fun _ _ => ?_)) | ((with_reducible refine Calmly.is_kept ?_); refine ⟨kept_of hk, ?_⟩) | (with_reducible refine Calmly.mix_alt ?_ ?_))
    gi_wp2
    refine ⟨by simp, .inl ⟨_, _, rfl, run_takeDeferred (show W.drew.heap[D]? = _ from hK), ?_⟩⟩
    have hm : m = ms.length := by omega
    refine ⟨.tuple #[.int .i64 (bAll (dets ms ks num den m)).1, .bool ((bAll (dets ms ks num den m)).2.2 == 0)], by simp [results, Try.results103, go_sem], ?_, ?_⟩
    · unfold belowF modeF
      rw [← hm]
    · exact hi.2.drew.trans (belowK_b (w := V) (by omega) W.drew D _ _ hD hK rfl rfl)
end Go.Proofs.Ytmaidjankakppaa

namespace Go.Proofs.Ytmaidjankakppaa
open Go.RowKit
open Calmly (Kept)

/-- The search for the last whole number that, divided by the denominator, is not greater than the square. -/
def encLoop (ms ks : List Int) (mode den : Int) : Nat → Int → Int → Int
  | 0, lo, _ => lo
  | f + 1, lo, hi => if lo < hi then (if mode < belowF ms ks (((lo + hi + 1) / 2)) den then encLoop ms ks mode den f lo (((lo + hi + 1) / 2) - 1) else encLoop ms ks mode den f (((lo + hi + 1) / 2)) hi) else lo
def encLo (ms ks : List Int) (mode den : Int) : Int := encLoop ms ks mode den 4000 0 (80 * den)
def encF (ms ks : List Int) (mode den : Int) : Int × Int :=
  if modeF ms ks (encLo ms ks mode den) den = true ∧ belowF ms ks (encLo ms ks mode den) den = mode then (encLo ms ks mode den, encLo ms ks mode den) else (encLo ms ks mode den, encLo ms ks mode den + 1)
theorem encLoop_end {ms ks : List Int} {mode den lo hi : Int} (f : Nat) (h : hi ≤ lo) : encLoop ms ks mode den f lo hi = lo := by
  cases f with
  | zero => rfl
  | succ f => rw [encLoop, if_neg (by omega)]
set_option maxRecDepth 100000 in
set_option maxHeartbeats 4000000 in
theorem enclosure_any (a b : Option Addr) (m c d : Nat) (ms ks : List Int) (mode den : Int) (w : World) (h1 : SI w a m c ms) (h2 : SI w b m d ks) (he : (checkF ms ks).2 = 0) (hd1 : 1 ≤ den) (hd2 : den ≤ 50) :
    Calls Try.prog 105 #[.agg #[.slice a m c, .slice b m d], .int .i64 mode, .int .i64 den] w fun e w' => e = .returned (.agg #[.int .i64 (encF ms ks mode den).1, .int .i64 (encF ms ks mode den).2]) ∧ Below w.heap.size w w' := by
  have hb2 : Below w.heap.size w ((w.alloc (.cells #[.slice a m c, .slice b m d] 141)).alloc (.cells #[.int .i64 0, .int .i64 0] 63)) := ((Below.refl _ _).alloc (Nat.le_refl _) _).alloc (by simp) _
  go_enter Try.func105, Try.ntmps105
  go_wp2_with fail
  refine wp_gen (fun v => Below w.heap.size w v ∧ v.heap[w.heap.size]? = some (.cells #[.slice a m c, .slice b m d] 141) ∧ v.heap[w.heap.size + 1]? = some (.cells #[.int .i64 0, .int .i64 0] 63)) ⟨hb2, box2 (Below.refl _ _)⟩ ?_
  clear hb2
  rintro v ⟨hbv, hx, hy⟩
  go_loopw [7, 8] (fun x y wr => ∃ (f : Nat) (lo hi : Int), x = .int .i64 lo ∧ y = .int .i64 hi ∧ 0 ≤ lo ∧ lo ≤ hi ∧ hi ≤ 80 * den ∧ hi - lo ≤ f ∧ encLoop ms ks mode den f lo hi = encLo ms ks mode den ∧ Below (w.heap.size + 2) v wr) (fun x y _ => (intOf y - intOf x).toNat)
  case atStart => exact ⟨4000, 0, 80 * den, rfl, rfl, by omega, by omega, by omega, by omega, rfl, Below.refl _ _⟩
  case round =>
    obtain ⟨f, lo, hi, rfl, rfl, i1, i2, i3, i4, hE, hbr⟩ := hrel
    have hsz := blk_lt hy
    have hsr := hbr.size
    have hbw := hbv.trans (hbr.mono (by omega))
    have hx' : wr.heap[w.heap.size]? = some (.cells #[.slice a m c, .slice b m d] 141) := (hbr.block _ (by omega)).trans hx
    have hy' : wr.heap[w.heap.size + 1]? = some (.cells #[.int .i64 0, .int .i64 0] 63) := (hbr.block _ (by omega)).trans hy
    have f0 : wr.cell? ⟨w.heap.size, 0, none⟩ = some (.slice a m c) := cell_block hx' 0
    have f1 : wr.cell? ⟨w.heap.size, 1, none⟩ = some (.slice b m d) := cell_block hx' 1
    have HE := Lib.hid hE
    clear hE
    by_cases hlt : lo < hi
    · have hst : encLoop ms ks mode den f lo hi = if mode < belowF ms ks ((lo + hi + 1) / 2) den then encLoop ms ks mode den (f - 1) lo ((lo + hi + 1) / 2 - 1) else encLoop ms ks mode den (f - 1) ((lo + hi + 1) / 2) hi := by
        obtain ⟨f', rfl⟩ : ∃ f', f = f' + 1 := ⟨f - 1, by omega⟩
        rw [encLoop, if_pos hlt]
        rfl
      have HS := Lib.hid hst
      clear hst
      go_wp2_with fail
      refine (below_any a b m c d ms ks ((lo + hi + 1) / 2) den wr (h1.keep hbw) (h2.keep hbw) he ⟨by omega, by omega, by omega, by omega⟩).mono ?_
      rintro e w5 ⟨rfl, hb5⟩
      have hbr5 := hbr.trans (hb5.mono (by omega))
      by_cases hgt : mode < belowF ms ks ((lo + hi + 1) / 2) den
      · rw [if_pos hgt] at HS
        go_wp2_with fail
        go_roundw
        case rel => exact ⟨f - 1, lo, (lo + hi + 1) / 2 - 1, rfl, rfl, by omega, by omega, by omega, by omega, by rw [← HS.out]; exact HE.out, hbr5⟩
        case measure => simp [intOf]; omega
      · rw [if_neg hgt] at HS
        have hle : belowF ms ks ((lo + hi + 1) / 2) den ≤ mode := by omega
        clear hgt
        go_wp2_with fail
        go_roundw
        case rel => exact ⟨f - 1, (lo + hi + 1) / 2, hi, rfl, rfl, by omega, by omega, by omega, by omega, by rw [← HS.out]; exact HE.out, hbr5⟩
        case measure => simp [intOf]; omega
    · have hle : hi ≤ lo := by omega
      have hlo := HE.out
      rw [encLoop_end f hle] at hlo
      subst hlo
      go_wp2_with fail
      refine (below_any a b m c d ms ks (encLo ms ks mode den) den wr (h1.keep hbw) (h2.keep hbw) he ⟨by omega, by omega, by omega, by omega⟩).mono ?_
      rintro e w5 ⟨rfl, hb5⟩
      have hy5 := blk_keep hy' hb5
      have g0 : w5.cell? ⟨w.heap.size + 1, 0, none⟩ = some (.int .i64 0) := cell_block hy5 0
      have g1 : w5.cell? ⟨w.heap.size + 1, 1, none⟩ = some (.int .i64 0) := cell_block hy5 1
      have g2 := frozen_block hy5 0
      have g3 := frozen_block hy5 1
      have hb6 : Below w.heap.size w w5 := hbw.trans (hb5.mono (by omega))
      have hfin : ∀ x y : Int, Below w.heap.size w ((w5.setCell ⟨w.heap.size + 1, 0, none⟩ (.int .i64 x)).setCell ⟨w.heap.size + 1, 1, none⟩ (.int .i64 y)) := fun x y => (hb6.setCell (by simp) _).setCell (by simp) _
      have hs2 : ∀ x y : Int, _ := fun x y => set2 (x := .int .i64 x) (y := .int .i64 y) g0 g1
      cases hm : modeF ms ks (encLo ms ks mode den) den
      · have hr : encF ms ks mode den = (encLo ms ks mode den, encLo ms ks mode den + 1) := by
          unfold encF
          rw [if_neg (fun h => by rw [hm] at h; cases h.1)]
        go_wp2_with fail
        rw [hr]
        obtain ⟨s1, s2, s3, s4⟩ := hs2 (encLo ms ks mode den) (encLo ms ks mode den + 1)
        refine bodyPost_ret (v := .agg #[.int .i64 (encLo ms ks mode den), .int .i64 (encLo ms ks mode den + 1)]) (by simp [results, Try.results105, go_sem, s1, s2]) rfl ⟨rfl, hfin _ _⟩
      · by_cases hc : belowF ms ks (encLo ms ks mode den) den = mode
        · have hc1 : (belowF ms ks (encLo ms ks mode den) den == mode) = true := by simp [hc]
          have hr : encF ms ks mode den = (encLo ms ks mode den, encLo ms ks mode den) := by
            unfold encF
            rw [if_pos ⟨hm, hc⟩]
          clear hc
          go_wp2_with fail
          rw [hr]
          obtain ⟨s1, s2, s3, s4⟩ := hs2 (encLo ms ks mode den) (encLo ms ks mode den)
          refine bodyPost_ret (v := .agg #[.int .i64 (encLo ms ks mode den), .int .i64 (encLo ms ks mode den)]) (by simp [results, Try.results105, go_sem, s1, s2]) rfl ⟨rfl, hfin _ _⟩
        · have hc1 : (belowF ms ks (encLo ms ks mode den) den == mode) = false := by simp [hc]
          have hr : encF ms ks mode den = (encLo ms ks mode den, encLo ms ks mode den + 1) := by
            unfold encF
            rw [if_neg (fun h => hc h.2)]
          clear hc
          go_wp2_with fail
          rw [hr]
          obtain ⟨s1, s2, s3, s4⟩ := hs2 (encLo ms ks mode den) (encLo ms ks mode den + 1)
          refine bodyPost_ret (v := .agg #[.int .i64 (encLo ms ks mode den), .int .i64 (encLo ms ks mode den + 1)]) (by simp [results, Try.results105, go_sem, s1, s2]) rfl ⟨rfl, hfin _ _⟩

end Go.Proofs.Ytmaidjankakppaa

namespace Go.Proofs.Ytmaidjankakppaa
open Go.RowKit
open Calmly (Kept)

/-- The error of an enclosure. -/
def encErr (ms ks : List Int) (mode den : Int) : Int := firstE [(checkF ms ks).2, unlessE (wIn mode 0 ((ms.length : Int) - 1)) 6, unlessE (wIn den 1 50) 2]
theorem firstE_three (x y z : Int) : firstE [x, y, z] = if x = 0 then (if y = 0 then z else y) else x := by
  unfold firstE
  split
  · exact firstE_two y z
  · rfl
theorem encErr_ok {ms ks : List Int} {mode den : Int} (h : encErr ms ks mode den = 0) : (checkF ms ks).2 = 0 ∧ 0 ≤ mode ∧ mode ≤ (ms.length : Int) - 1 ∧ 1 ≤ den ∧ den ≤ 50 := by
  unfold encErr at h
  rw [firstE_three] at h
  split at h
  · rename_i h1
    split at h
    · rename_i h2
      refine ⟨h1, ?_⟩
      have h3 : wIn mode 0 ((ms.length : Int) - 1) = true := by
        cases hw : wIn mode 0 ((ms.length : Int) - 1)
        · rw [hw] at h2; cases h2
        · rfl
      have h4 : wIn den 1 50 = true := by
        cases hw : wIn den 1 50
        · rw [hw] at h; cases h
        · rfl
      have := wIn_iff.1 h3
      have := wIn_iff.1 h4
      omega
    · rename_i h2
      exact absurd h h2
  · rename_i h1
    exact absurd h h1

set_option maxRecDepth 100000 in
set_option maxHeartbeats 4000000 in
theorem EnclosureOf_any (a b : Option Addr) (n c m d : Nat) (ms ks : List Int) (mode den : Int) (w : World) (h1 : SI w a n c ms) (h2 : SI w b m d ks)
    (E lo hi : Int) (hE : encErr ms ks mode den = E) (hok : E = 0 → encF ms ks mode den = (lo, hi)) (hno : E ≠ 0 → lo = 0 ∧ hi = 0) :
    Calls Try.prog 37 #[.agg #[.slice a n c, .slice b m d], .int .i64 mode, .int .i64 den] w fun e w' => e = .returned (.tuple #[.agg #[.int .i64 lo, .int .i64 hi], .int .i64 E]) ∧ Below w.heap.size w w' := by
  have HE := Lib.hid hE
  have HOK := Lib.hid hok
  have HNO := Lib.hid hno
  clear hE hok hno
  have hb2 : Below w.heap.size w ((w.alloc (.cells #[.slice a n c, .slice b m d] 24)).alloc (.cells #[.int .i64 0, .int .i64 0] 63)) := ((Below.refl _ _).alloc (Nat.le_refl _) _).alloc (by simp) _
  obtain ⟨k1, k2⟩ : m ≤ ks.length ∧ ks.length ≤ m := by have := h2.len; omega
  obtain ⟨l1, l2⟩ : n ≤ ms.length ∧ ms.length ≤ n := by have := h1.len; omega
  have m1 := h1.max
  have c1 := h1.cap
  go_enter Try.func37, Try.ntmps37
  go_wp2_with fail
  refine (open_any a b n c m d ms ks _ (h1.keep hb2) (h2.keep hb2)).mono ?_
  rintro e w1 ⟨rfl, hb1⟩
  obtain ⟨x1, x2⟩ := box2 (w := w) (o := .cells #[.slice a n c, .slice b m d] 24) (o' := .cells #[.int .i64 0, .int .i64 0] 63) hb1
  have hs1 := blk_lt x2
  have hs0 := blk_lt x1
  have f0 : w1.cell? ⟨w.heap.size, 0, none⟩ = some (.slice a n c) := cell_block x1 0
  have g0 : w1.cell? ⟨w.heap.size + 1, 0, none⟩ = some (.int .i64 0) := cell_block x2 0
  have g1 : w1.cell? ⟨w.heap.size + 1, 1, none⟩ = some (.int .i64 0) := cell_block x2 1
  have g2 := frozen_block x2 0
  have g3 := frozen_block x2 1
  have hbw : Below w.heap.size w w1 := hb2.trans (hb1.mono (by simp; omega))
  go_wp2_with fail
  refine (mWithin_any _ _ _ _).mono ?_
  rintro e w' ⟨rfl, rfl⟩
  go_wp2_with fail
  refine (unless_any _ _ _).mono ?_
  rintro e w' ⟨rfl, rfl⟩
  go_wp2_with fail
  refine (isDen_any _ _).mono ?_
  rintro e w' ⟨rfl, rfl⟩
  go_wp2_with fail
  refine (unless_any _ _ _).mono ?_
  rintro e w' ⟨rfl, rfl⟩
  go_wp2_with fail
  have hE1 : firstE [(checkF ms ks).2, unlessE (wIn mode 0 ((n : Int) - 1)) 6, unlessE (wIn den 1 50) 2] = E := by
    rw [show (n : Int) = (ms.length : Int) by omega]
    exact HE.out
  refine (first_any _ 3 3 _ _ (SI.three _ _ _ _ _ (by simp))).mono ?_
  rintro e w' ⟨rfl, rfl⟩
  rw [hE1]
  clear hE1
  have hu : ∀ o, Below w1.heap.size w1 ((w1.alloc (.cells #[.slice a n c, .slice b m d] 141)).alloc o) := fun o => ((Below.refl _ _).alloc (Nat.le_refl _) _).alloc (by simp) _
  by_cases hz : E = 0
  · subst hz
    have hlh := HOK.out rfl
    obtain ⟨he0, hm0, hm1, hd0, hd1⟩ := encErr_ok HE.out
    obtain ⟨q1, q2, q3, q4, q5⟩ := checkF_ok he0
    have hmn : m = n := by omega
    subst hmn
    have HLH := Lib.hid hlh
    have HE0 := Lib.hid he0
    clear hlh he0 q4 q5 q1
    go_wp2_with fail
    refine (enclosure_any a b m c d ms ks mode den _ ((h1.keep hbw).keep (hu _)) ((h2.keep hbw).keep (hu _)) HE0.out hd0 hd1).mono ?_
    rintro e w3 ⟨rfl, hb3⟩
    rw [HLH.out]
    have hb4 := (hu (.cells #[.int .i64 (checkF ms ks).2, .int .i64 (unlessE (wIn mode 0 ((m : Int) - 1)) 6), .int .i64 (unlessE (wIn den 1 50) 2)] 27)).trans (hb3.mono (by simp; omega))
    have x3 := blk_keep x2 hb4
    have g0 : w3.cell? ⟨w.heap.size + 1, 0, none⟩ = some (.int .i64 0) := cell_block x3 0
    have g1 : w3.cell? ⟨w.heap.size + 1, 1, none⟩ = some (.int .i64 0) := cell_block x3 1
    have g2 := frozen_block x3 0
    have g3 := frozen_block x3 1
    obtain ⟨s1, s2, s3, s4⟩ := set2 (x := .int .i64 lo) (y := .int .i64 hi) g0 g1
    have hb5 := hbw.trans (hb4.mono (by omega))
    go_wp2_with fail
    refine bodyPost_ret (v := .tuple #[.agg #[.int .i64 lo, .int .i64 hi], .int .i64 0]) (by simp [results, Try.results37, go_sem, s1, s2]) rfl ⟨rfl, ?_⟩
    exact (hb5.setCell (by simp) _).setCell (by simp) _
  · have hz1 : (E != 0) = true := by simpa using hz
    obtain ⟨rfl, rfl⟩ := HNO.out hz
    clear hz
    go_wp2_with fail
    obtain ⟨s1, s2, s3, s4⟩ := set2 (x := .int .i64 0) (y := .int .i64 0) g0 g1
    have hA : ∀ (A : World) (o o' : Obj), Below A.heap.size A ((A.alloc o).alloc o') := fun A o o' => ((Below.refl _ _).alloc (Nat.le_refl _) _).alloc (by simp) _
    have t1 := cell_keep s1 (hA _ (.cells #[.slice a n c, .slice b m d] 141) (.cells #[.int .i64 (checkF ms ks).2, .int .i64 (unlessE (wIn mode 0 ((n : Int) - 1)) 6), .int .i64 (unlessE (wIn den 1 50) 2)] 27))
    have t2 := cell_keep s2 (hA _ (.cells #[.slice a n c, .slice b m d] 141) (.cells #[.int .i64 (checkF ms ks).2, .int .i64 (unlessE (wIn mode 0 ((n : Int) - 1)) 6), .int .i64 (unlessE (wIn den 1 50) 2)] 27))
    refine bodyPost_ret (v := .tuple #[.agg #[.int .i64 0, .int .i64 0], .int .i64 E]) (by simp [results, Try.results37, go_sem, t1, t2]) rfl ⟨rfl, ?_⟩
    exact (((hbw.setCell (by simp) _).setCell (by simp) _).alloc (by simp; omega) _).alloc (by simp; omega) _
end Go.Proofs.Ytmaidjankakppaa
