/- The sum of a property of all elements: printed by gen_m8.py. A region that draws its order, walked by a plan, with a fact S that holds in all its worlds: what is loaded from blocks that S knows is loaded early. -/
import Derived.Test.YtaiikekgckjdeaaK07
namespace Go.Proofs.Ytaiikekgckjdeaa
open Go.RowKit Go.Shelf
attribute [local go_sem] Oper.semAt_some
open Calmly (Kept)

def sumR (f : Nat → Int) : Nat → Int
  | 0 => 0
  | n + 1 => sumR f n + f n
def sumP (f : Nat → Int) {n : Nat} (pre : List (Fin n)) : Int := pre.foldl (fun s i => s + f i.val) 0
theorem sumP_snoc (f : Nat → Int) {n : Nat} (pre : List (Fin n)) (x : Fin n) : sumP f (pre ++ [x]) = sumP f pre + f x.val := by simp [sumP]
theorem foldl_range (f : Nat → Int) (n : Nat) : (List.range n).foldl (fun s i => s + f i) 0 = sumR f n := by
  induction n with
  | zero => rfl
  | succ n ih => rw [List.range_succ, List.foldl_append, ih]; rfl
theorem sumP_all (f : Nat → Int) {n : Nat} (pre : List (Fin n)) (k : Nat) (h : pre.map (·.val) = List.range k) : sumP f pre = sumR f k := by
  rw [← foldl_range, ← h, List.foldl_map]
  rfl
theorem sumP_bd (f : Nat → Int) (B : Int) {n : Nat} (hf : ∀ i, i < n → -B ≤ f i ∧ f i ≤ B) (pre : List (Fin n)) : -(B * (pre.length : Int)) ≤ sumP f pre ∧ sumP f pre ≤ B * (pre.length : Int) := by
  suffices h : ∀ (m : Nat) (q : List (Fin n)), q.length = m → -(B * (m : Int)) ≤ sumP f q ∧ sumP f q ≤ B * (m : Int) from h _ pre rfl
  intro m
  induction m with
  | zero =>
    intro q hq
    have : q = [] := List.length_eq_zero_iff.1 hq
    subst this
    simp [sumP]
  | succ m ih =>
    intro q hq
    have hne : q ≠ [] := by rintro rfl; simp at hq
    obtain ⟨q', x, rfl⟩ : ∃ q' x, q = q' ++ [x] := ⟨q.dropLast, q.getLast hne, (List.dropLast_concat_getLast hne).symm⟩
    have h1 := ih q' (by simp at hq; exact hq)
    have h2 := hf x.val x.isLt
    rw [sumP_snoc]
    have e : B * ((m + 1 : Nat) : Int) = B * (m : Int) + B := by rw [Int.natCast_add, Int.mul_add]; simp
    rw [e]
    omega
theorem belowD {w W : World} {D : Nat} {o' o : Obj} (h : Below w.heap.size w W) (hD : w.heap.size ≤ D) (_ : W.heap[D]? = some o) : Below w.heap.size w (W.putObj D o') := h.trans ((grown_below (grownBy_putObj' W D o') h.size (fun k hk => by cases hk; exact hD)))
/-- What lies between two rounds of a sum. -/
structure SumI (w : World) (N : Nat) (fv : Value) (s : Int) (W : World) : Prop where
  bel : Below w.heap.size w W
  fn : W.heap[w.heap.size + 1]? = some (.cells #[fv] 150)
  sum : W.heap[w.heap.size + 2]? = some (.cells #[.int .i64 s] 3)
  sz : N ≤ W.heap.size
theorem SumI.keep {w : World} {N : Nat} {fv : Value} {s : Int} {W W' : World} (h : SumI w N fv s W) (hb : Below W.heap.size W W') : SumI w N fv s W' :=
  ⟨h.bel.trans (hb.mono h.bel.size), blk_keep h.fn hb, blk_keep h.sum hb, by have := h.sz; have := hb.size; omega⟩
theorem SumI.own {β : Type} (w : World) (N : Nat) (fv : Value) (B : Nat) (f : β → Int) (hB : w.heap.size ≤ B) : OwnFrom B (fun s W => SumI w N fv (f s) W) := by
  rintro s W W' row ⟨h1, h2, h3, h4⟩ hg hr
  have hk := keeps_of_grown hg (fun r e => (hr r e).2)
  exact ⟨h1.trans (grown_below hg h1.size (fun k e => by have := (hr k e).1; omega)), hk.blk (by simp) h2, hk.blk (by simp) h3, by have := hk.size; omega⟩
/-- A block of the round's own. -/
def OneB (N : Nat) (v : Nat → Obj) (W : World) (b : Nat) : Prop := N ≤ b ∧ W.heap[b]? = some (v b)
theorem blk_own {β : Type} (B b : Nat) (cs : Array Value) (t : TypeId) : OwnFrom B (fun (_ : β) W => W.heap[b]? = some (.cells cs t)) := by
  rintro s W W' row h hg hr
  exact (keeps_of_grown hg (fun r e => (hr r e).2)).blk (by simp) h
theorem ex_own {β γ : Type} (B : Nat) (p : γ → β → World → Prop) (h : ∀ c, OwnFrom B (p c)) : OwnFrom B (fun s W => ∃ c, p c s W) := by
  rintro s W W' row ⟨c, hc⟩ hg hr
  exact ⟨c, h c s W W' row hc hg hr⟩

set_option maxRecDepth 100000 in
set_option maxHeartbeats 4000000 in
theorem sumForce_any (a a2 : Option Addr) (n c c2 : Nat) (l : List El) (at' : Int) (sl : List Sp) (w : World) (h1 : SEl w a n c l) (h2 : SSp w a2 n c2 sl) (hn : n ≤ 6) (hB : ∀ i, i < n → ElB (l[i]?.getD el0).1 (l[i]?.getD el0).2.1 (sl[i]?.getD sp0).1 at') :
    Calls Try.prog 93 #[.slice a n c, .agg #[.int .i64 at', .slice a2 n c2], .func (.func 101) #[] #[]] w fun e w' => e = .returned (.int .i64 (sumR (fun i => frcE (l[i]?.getD el0).1 (sl[i]?.getD sp0).1 (sl[i]?.getD sp0).2 at') n)) ∧ Below w.heap.size w w' := by
  have m1 := h1.max
  have c1 := h1.cap
  have m2 := h2.max
  have cc2 := h2.cap
  have HB := Lib.hid hB
  clear hB
  have y2 := alloc_new ((w.alloc (.cells #[.int .i64 at', .slice a2 n c2] 49)).alloc (.cells #[.func (.func 101) #[] #[]] 150)) (.cells #[.int .i64 0] 3)
  have y1 := blk_keep (alloc_new (w.alloc (.cells #[.int .i64 at', .slice a2 n c2] 49)) (.cells #[.func (.func 101) #[] #[]] 150)) ((Below.refl _ _).alloc (Nat.le_refl _) (.cells #[.int .i64 0] 3))
  have y0 := blk_keep (blk_keep (alloc_new w (.cells #[.int .i64 at', .slice a2 n c2] 49)) ((Below.refl _ _).alloc (Nat.le_refl _) (.cells #[.func (.func 101) #[] #[]] 150))) ((Below.refl _ _).alloc (Nat.le_refl _) (.cells #[.int .i64 0] 3))
  have BW : Below w.heap.size w (((w.alloc (.cells #[.int .i64 at', .slice a2 n c2] 49)).alloc (.cells #[.func (.func 101) #[] #[]] 150)).alloc (.cells #[.int .i64 0] 3)) := (((Below.refl _ _).alloc (Nat.le_refl _) _).alloc (by simp) _).alloc (by simp; omega) _
  have hsz : (((w.alloc (.cells #[.int .i64 at', .slice a2 n c2] 49)).alloc (.cells #[.func (.func 101) #[] #[]] 150)).alloc (.cells #[.int .i64 0] 3)).heap.size = w.heap.size + 3 := by simp
  simp only [World.size_alloc] at y1 y2
  refine (callsIn_wide (n := 5)).1 ?_
  refine callsIn_of_wp_marks Try.func93 rfl trivial ?_ rfl
  simp only [Try.ntmps93, List.size_toArray, List.length_cons, List.length_nil, Nat.reduceAdd, Nat.reduceSub, Array.replicate_succ, Array.replicate_zero, List.push_toArray, List.append_toArray, List.nil_append, List.cons_append]
  refine wpIn_wide.2 ?_
  go_wp2_with fail
  generalize ((w.alloc (.cells #[.int .i64 at', .slice a2 n c2] 49)).alloc (.cells #[.func (.func 101) #[] #[]] 150)).alloc (.cells #[.int .i64 0] 3) = W3 at *
  refine (elements_any a a2 n c n c2 at' _).mono ?_
  rintro e w3 ⟨rfl, rfl⟩
  have z0 := blk_keep (alloc_new W3 (.cells #[.slice a n c] 44)) ((Below.refl _ _).alloc (Nat.le_refl _) (.cells #[.int .i64 at', .slice a2 n c2] 49))
  have z1 := alloc_new (W3.alloc (.cells #[.slice a n c] 44)) (.cells #[.int .i64 at', .slice a2 n c2] 49)
  simp only [World.size_alloc] at z1
  have BV : Below W3.heap.size W3 ((W3.alloc (.cells #[.slice a n c] 44)).alloc (.cells #[.int .i64 at', .slice a2 n c2] 49)) := ((Below.refl _ _).alloc (Nat.le_refl _) _).alloc (by simp) _
  have hszV : ((W3.alloc (.cells #[.slice a n c] 44)).alloc (.cells #[.int .i64 at', .slice a2 n c2] 49)).heap.size = W3.heap.size + 2 := by simp
  go_wp2_with fail
  generalize (W3.alloc (.cells #[.slice a n c] 44)).alloc (.cells #[.int .i64 at', .slice a2 n c2] 49) = V at *
  replace y1 := blk_keep y1 BV
  replace y2 := blk_keep y2 BV
  replace BW := BW.trans (BV.mono BW.size)
  clear y0
  rw [hsz] at z0 z1
  refine (wpIn_wide (n := 5)).1 ?_
  refine range_mid (gf := 144) (m := 4) rfl (enters_of Try.func144 (by kernel_rfl) rfl) (enc := fun i : Fin n => #[elAt l sl at' i.val]) (Kp := Keeps (fun b => b = w.heap.size + 2))
    (elements_onon V (w.heap.size + 3 + 1) (w.heap.size + 3) a a2 n c c2 l sl at' (fun b => b = w.heap.size + 2) z1 z0 (h1.keep BW) (h2.keep BW) (by omega) (by omega) (fun b o h0 ha => by have := h1.blk b o h0 ha; omega) (fun b o h0 ha => by have := h2.blk b o h0 ha; omega) _) (fun h k => h.trans k) (fun W l o o' _ hl ho => Keeps.put o' hl ho) (fun _ => rfl)
    (fun pre W => SumI w V.heap.size (.func (.func 101) #[] #[]) (sumP (fun i => frcE (l[i]?.getD el0).1 (sl[i]?.getD sp0).1 (sl[i]?.getD sp0).2 at') pre) W) (SumI.own w _ _ V.heap.size _ (by omega)) ⟨BW, y1, y2, Nat.le_refl _⟩
    (fun pre x a' W => ∃ b, (SumI w V.heap.size (.func (.func 101) #[] #[]) (sumP (fun i => frcE (l[i]?.getD el0).1 (sl[i]?.getD sp0).1 (sl[i]?.getD sp0).2 at') pre) W ∧ W.heap[b]? = some (.cells #[.int .i64 (l[x.val]?.getD el0).1, .int .i64 (l[x.val]?.getD el0).2.1, .bool (l[x.val]?.getD el0).2.2, .int .i64 (sl[x.val]?.getD sp0).1, .bool (sl[x.val]?.getD sp0).2, .int .i64 at'] 154)) ∧ (pre.length < n ∧ a' = { tmps := #[.slice a n c, .agg #[.int .i64 at', .slice a2 n c2], .func (.func 101) #[] #[], undef, .pointer (some ⟨w.heap.size, 0, none⟩), .pointer (some ⟨w.heap.size + 1, 0, none⟩), .int .i64 0, .pointer (some ⟨w.heap.size + 1 + 1, 0, none⟩), .pointer (some ⟨b, 0, none⟩), .slice a n c, .agg #[.int .i64 at', .slice a2 n c2], .func (.func 144) #[] #[.pointer (some ⟨w.heap.size + 3 + 1, 0, none⟩), .pointer (some ⟨w.heap.size + 3, 0, none⟩)], elAt l sl at' x.val, undef, undef, undef, undef, undef, undef], defers := [] }))
    ?own ?assign ?body ?done
  case own =>
    rintro pre x a' s W W' row ⟨b, ⟨h1, h2⟩, h3⟩ hg hr
    exact ⟨b, ⟨SumI.own w _ _ V.heap.size (fun _ => _) (by omega) () W W' row h1 hg hr, (keeps_of_grown hg (fun r e => (hr r e).2)).blk (by simp) h2⟩, h3⟩
  case assign =>
    rintro r pre x W K hi hlen hK
    simp only [elAt, elV] at hK ⊢
    have hW := hi.sz
    gi_wp2
    refine hK _ _ (KeepsOthers.alloc _ _) (Keeps.of_below ((Below.refl _ _).alloc (Nat.le_refl _) _)) ⟨W.heap.size, ⟨hi.keep ((Below.refl _ _).alloc (Nat.le_refl _) _), alloc_new _ _⟩, hlen, rfl⟩
  case body =>
    rintro r pre x a' W ⟨b, ⟨hS, hb⟩, hlen, rfl⟩
    have hEB := HB.out x.val x.isLt
    have hbd := sumP_bd (fun i => frcE (l[i]?.getD el0).1 (sl[i]?.getD sp0).1 (sl[i]?.getD sp0).2 at') 50000000 (fun i hi => by
      have := frc_bd (br := (sl[i]?.getD sp0).2) (HB.out i hi)
      exact this) pre
    have hfb := frc_bd (br := (sl[x.val]?.getD sp0).2) hEB
    rw [show sumP (fun i => frcE (l[i]?.getD el0).1 (sl[i]?.getD sp0).1 (sl[i]?.getD sp0).2 at') (pre ++ [x]) = sumP (fun i => frcE (l[i]?.getD el0).1 (sl[i]?.getD sp0).1 (sl[i]?.getD sp0).2 at') pre + frcE (l[x.val]?.getD el0).1 (sl[x.val]?.getD sp0).1 (sl[x.val]?.getD sp0).2 at' from sumP_snoc _ _ _]
    generalize sumP (fun i => frcE (l[i]?.getD el0).1 (sl[i]?.getD sp0).1 (sl[i]?.getD sp0).2 at') pre = s at hS hbd ⊢
    simp only [elAt, elV]
    generalize (l[x.val]?.getD el0).1 = e1 at *
    generalize (l[x.val]?.getD el0).2.1 = e2 at *
    generalize (l[x.val]?.getD el0).2.2 = e3 at *
    generalize (sl[x.val]?.getD sp0).1 = e4 at *
    generalize (sl[x.val]?.getD sp0).2 = e5 at *
    obtain ⟨f, hf⟩ : ∃ f, frcE e1 e4 e5 at' = f := ⟨_, rfl⟩
    rw [hf] at hfb ⊢
    have HF := Lib.hid hf
    clear hf
    have hsb : -20000000000000 ≤ s ∧ s ≤ 20000000000000 := by omega
    have g0 := cell_block hS.fn 0
    have g1 := cell_block hS.sum 0
    have g2 := cell_block hb 0
    have g3 := cell_block hb 1
    have g4 := cell_block hb 2
    have g5 := cell_block hb 3
    have g6 := cell_block hb 4
    have g7 := cell_block hb 5
    gi_wp2
    refine Calmly.wpIn_region_mix 4 (.fl 0 <| .fl 1 <| .fl 2 <| .eff 3 <| .tail [4, 5]) (by kernel_rfl) (by kernel_rfl) (by rintro a w ⟨h, _⟩; cases h) ?_
    have BD : Below W.heap.size W W.drew := (Below.refl _ _).drew
    have hk := Below.refl W.drew.heap.size W.drew
    go_wp2_with (first | ((with_reducible refine Calmly.is_fl ?_); refine Calmly.mix_fl rfl ?_ (fun _ _ => ?_); (first | exact .move _ | exact .load _ _ | exact .fieldAddr _ _ _ (by kernel_rfl) | exact .assign _ | exact .binOp _ _ _ _ _ rfl | exact .indexAddr _ _ _ | exact .len _ _ (by kernel_rfl) | exact .field _ _ _ | exact .extract _ _ | exact .pick _ _ _ | exact .build _ _ | exact .slice _ _ _ _ _ | exact .unOp _ _ _ rfl | exact .index _ _ _ | exact .max _ _ _ rfl rfl | exact .min _ _ _ rfl rfl | exact .nilCheck _ _ rfl)) | ((with_reducible refine Calmly.is_gl ?_); refine Calmly.mix_gl rfl rfl rfl ?_; first | ((first | with_reducible refine Calmly.gl_tt ?_ (fun _ _ => ?_) | with_reducible refine Calmly.gl_ff ?_ (fun _ _ => ?_)); (first | exact .move _ | exact .load _ _ | exact .fieldAddr _ _ _ (by kernel_rfl) | exact .assign _ | exact .binOp _ _ _ _ _ rfl | exact .indexAddr _ _ _ | exact .len _ _ (by kernel_rfl) | exact .field _ _ _ | exact .extract _ _ | exact .pick _ _ _ | exact .build _ _ | exact .slice _ _ _ _ _ | exact .unOp _ _ _ rfl | exact .index _ _ _ | exact .max _ _ _ rfl rfl | exact .min _ _ _ rfl rfl | exact .nilCheck _ _ rfl)) | with_reducible refine Calmly.gl_tf (fun _ _ => ?_) | with_reducible refine Calmly.gl_ft (fun _ _ => ?_)) | ((with_reducible refine Calmly.is_eff ?_); refine Calmly.mix_eff rfl (fun _ _ => ?_)) | ((with_reducible refine Calmly.is_gf ?_); refine Calmly.mix_gf rfl rfl rfl ?_; first | with_reducible refine Calmly.gf_tt (fun _ _ => ?_) | with_reducible refine Calmly.gf_ff (fun _ _ => ?_) | with_reducible refine Calmly.gf_tf (kept_of hk) (fun _ _ => ?_) | with_reducible refine Calmly.gf_ft (kept_of hk) (fun _ _ => ?_)) | ((with_reducible refine Calmly.is_tail ?_); first | refine Calmly.mix_tail_nil ?_ | refine Calmly.mix_tail rfl (fun _ _ => ?_)) | ((with_reducible refine Calmly.is_kept ?_); refine ⟨kept_of hk, ?_⟩) | (with_reducible refine Calmly.mix_alt ?_ ?_))
    refine (force_any e1 e2 e3 e4 e5 at' _ hEB).mono ?_
    rintro e u1 ⟨rfl, hs⟩
    rw [HF.out]
    replace hk := step_of hk hs
    have BU := BD.trans (hs.mono BD.size)
    have hS2 := hS.keep BU
    have k1 := cell_block hS2.sum 0
    have k2 := frozen_block hS2.sum 0
    go_wp2_with (first | ((with_reducible refine Calmly.is_fl ?_); refine Calmly.mix_fl rfl ?_ (fun _ _ => ?_); (first | exact .move _ | exact .load _ _ | exact .fieldAddr _ _ _ (by kernel_rfl) | exact .assign _ | exact .binOp _ _ _ _ _ rfl | exact .indexAddr _ _ _ | exact .len _ _ (by kernel_rfl) | exact .field _ _ _ | exact .extract _ _ | exact .pick _ _ _ | exact .build _ _ | exact .slice _ _ _ _ _ | exact .unOp _ _ _ rfl | exact .index _ _ _ | exact .max _ _ _ rfl rfl | exact .min _ _ _ rfl rfl | exact .nilCheck _ _ rfl)) | ((with_reducible refine Calmly.is_gl ?_); refine Calmly.mix_gl rfl rfl rfl ?_; first | ((first | with_reducible refine Calmly.gl_tt ?_ (fun _ _ => ?_) | with_reducible refine Calmly.gl_ff ?_ (fun _ _ => ?_)); (first | exact .move _ | exact .load _ _ | exact .fieldAddr _ _ _ (by kernel_rfl) | exact .assign _ | exact .binOp _ _ _ _ _ rfl | exact .indexAddr _ _ _ | exact .len _ _ (by kernel_rfl) | exact .field _ _ _ | exact .extract _ _ | exact .pick _ _ _ | exact .build _ _ | exact .slice _ _ _ _ _ | exact .unOp _ _ _ rfl | exact .index _ _ _ | exact .max _ _ _ rfl rfl | exact .min _ _ _ rfl rfl | exact .nilCheck _ _ rfl)) | with_reducible refine Calmly.gl_tf (fun _ _ => ?_) | with_reducible refine Calmly.gl_ft (fun _ _ => ?_)) | ((with_reducible refine Calmly.is_eff ?_); refine Calmly.mix_eff rfl (fun _ _ => ?_)) | ((with_reducible refine Calmly.is_gf ?_); refine Calmly.mix_gf rfl rfl rfl ?_; first | with_reducible refine Calmly.gf_tt (fun _ _ => ?_) | with_reducible refine Calmly.gf_ff (fun _ _ => ?_) | with_reducible refine Calmly.gf_tf (kept_of hk) (fun _ _ => ?_) | with_reducible refine Calmly.gf_ft (kept_of hk) (fun _ _ => ?_)) | ((with_reducible refine Calmly.is_tail ?_); first | refine Calmly.mix_tail_nil ?_ | refine Calmly.mix_tail rfl (fun _ _ => ?_)) | ((with_reducible refine Calmly.is_kept ?_); refine ⟨kept_of hk, ?_⟩) | (with_reducible refine Calmly.mix_alt ?_ ?_))
    refine ⟨(ko_below BU).trans (KeepsOthers.setCell _ _ _), (Keeps.of_below BU).trans (Keeps.setCell _ _ _ rfl), hS2.bel.setCell (by show w.heap.size ≤ w.heap.size + 1 + 1; omega) _, ?_, ?_, ?_⟩
    · rw [Below.heap_setCell _ _ _ _ (by show w.heap.size + 1 ≠ w.heap.size + 1 + 1; omega)]
      exact hS2.fn
    · have := setBlk hS2.sum 0 (.int .i64 (s + f))
      simpa using this
    · have h9 := hS2.sz
      simp only [World.setCell, Array.size_modify]
      omega
  case done =>
    rintro D ys W hD hys hi hK
    rw [sumP_all _ _ _ hys] at hi
    have g1 := cell_block hi.sum 0
    go_wp2_with fail
    refine ⟨by simp, .inl ⟨_, _, rfl, run_takeDeferred hK, ?_⟩⟩
    exact ⟨.int .i64 _, by simp [results, Try.results93, go_sem], rfl, belowD hi.bel (by omega) hK⟩

set_option maxRecDepth 100000 in
set_option maxHeartbeats 4000000 in
theorem sumEnergy_any (a a2 : Option Addr) (n c c2 : Nat) (l : List El) (at' : Int) (sl : List Sp) (w : World) (h1 : SEl w a n c l) (h2 : SSp w a2 n c2 sl) (hn : n ≤ 6) (hB : ∀ i, i < n → ElB (l[i]?.getD el0).1 (l[i]?.getD el0).2.1 (sl[i]?.getD sp0).1 at') :
    Calls Try.prog 93 #[.slice a n c, .agg #[.int .i64 at', .slice a2 n c2], .func (.func 94) #[] #[]] w fun e w' => e = .returned (.int .i64 (sumR (fun i => enrE (l[i]?.getD el0).1 (sl[i]?.getD sp0).1 (sl[i]?.getD sp0).2 at') n)) ∧ Below w.heap.size w w' := by
  have m1 := h1.max
  have c1 := h1.cap
  have m2 := h2.max
  have cc2 := h2.cap
  have HB := Lib.hid hB
  clear hB
  have y2 := alloc_new ((w.alloc (.cells #[.int .i64 at', .slice a2 n c2] 49)).alloc (.cells #[.func (.func 94) #[] #[]] 150)) (.cells #[.int .i64 0] 3)
  have y1 := blk_keep (alloc_new (w.alloc (.cells #[.int .i64 at', .slice a2 n c2] 49)) (.cells #[.func (.func 94) #[] #[]] 150)) ((Below.refl _ _).alloc (Nat.le_refl _) (.cells #[.int .i64 0] 3))
  have y0 := blk_keep (blk_keep (alloc_new w (.cells #[.int .i64 at', .slice a2 n c2] 49)) ((Below.refl _ _).alloc (Nat.le_refl _) (.cells #[.func (.func 94) #[] #[]] 150))) ((Below.refl _ _).alloc (Nat.le_refl _) (.cells #[.int .i64 0] 3))
  have BW : Below w.heap.size w (((w.alloc (.cells #[.int .i64 at', .slice a2 n c2] 49)).alloc (.cells #[.func (.func 94) #[] #[]] 150)).alloc (.cells #[.int .i64 0] 3)) := (((Below.refl _ _).alloc (Nat.le_refl _) _).alloc (by simp) _).alloc (by simp; omega) _
  have hsz : (((w.alloc (.cells #[.int .i64 at', .slice a2 n c2] 49)).alloc (.cells #[.func (.func 94) #[] #[]] 150)).alloc (.cells #[.int .i64 0] 3)).heap.size = w.heap.size + 3 := by simp
  simp only [World.size_alloc] at y1 y2
  refine (callsIn_wide (n := 5)).1 ?_
  refine callsIn_of_wp_marks Try.func93 rfl trivial ?_ rfl
  simp only [Try.ntmps93, List.size_toArray, List.length_cons, List.length_nil, Nat.reduceAdd, Nat.reduceSub, Array.replicate_succ, Array.replicate_zero, List.push_toArray, List.append_toArray, List.nil_append, List.cons_append]
  refine wpIn_wide.2 ?_
  go_wp2_with fail
  generalize ((w.alloc (.cells #[.int .i64 at', .slice a2 n c2] 49)).alloc (.cells #[.func (.func 94) #[] #[]] 150)).alloc (.cells #[.int .i64 0] 3) = W3 at *
  refine (elements_any a a2 n c n c2 at' _).mono ?_
  rintro e w3 ⟨rfl, rfl⟩
  have z0 := blk_keep (alloc_new W3 (.cells #[.slice a n c] 44)) ((Below.refl _ _).alloc (Nat.le_refl _) (.cells #[.int .i64 at', .slice a2 n c2] 49))
  have z1 := alloc_new (W3.alloc (.cells #[.slice a n c] 44)) (.cells #[.int .i64 at', .slice a2 n c2] 49)
  simp only [World.size_alloc] at z1
  have BV : Below W3.heap.size W3 ((W3.alloc (.cells #[.slice a n c] 44)).alloc (.cells #[.int .i64 at', .slice a2 n c2] 49)) := ((Below.refl _ _).alloc (Nat.le_refl _) _).alloc (by simp) _
  have hszV : ((W3.alloc (.cells #[.slice a n c] 44)).alloc (.cells #[.int .i64 at', .slice a2 n c2] 49)).heap.size = W3.heap.size + 2 := by simp
  go_wp2_with fail
  generalize (W3.alloc (.cells #[.slice a n c] 44)).alloc (.cells #[.int .i64 at', .slice a2 n c2] 49) = V at *
  replace y1 := blk_keep y1 BV
  replace y2 := blk_keep y2 BV
  replace BW := BW.trans (BV.mono BW.size)
  clear y0
  rw [hsz] at z0 z1
  refine (wpIn_wide (n := 5)).1 ?_
  refine range_mid (gf := 144) (m := 4) rfl (enters_of Try.func144 (by kernel_rfl) rfl) (enc := fun i : Fin n => #[elAt l sl at' i.val]) (Kp := Keeps (fun b => b = w.heap.size + 2))
    (elements_onon V (w.heap.size + 3 + 1) (w.heap.size + 3) a a2 n c c2 l sl at' (fun b => b = w.heap.size + 2) z1 z0 (h1.keep BW) (h2.keep BW) (by omega) (by omega) (fun b o h0 ha => by have := h1.blk b o h0 ha; omega) (fun b o h0 ha => by have := h2.blk b o h0 ha; omega) _) (fun h k => h.trans k) (fun W l o o' _ hl ho => Keeps.put o' hl ho) (fun _ => rfl)
    (fun pre W => SumI w V.heap.size (.func (.func 94) #[] #[]) (sumP (fun i => enrE (l[i]?.getD el0).1 (sl[i]?.getD sp0).1 (sl[i]?.getD sp0).2 at') pre) W) (SumI.own w _ _ V.heap.size _ (by omega)) ⟨BW, y1, y2, Nat.le_refl _⟩
    (fun pre x a' W => ∃ b, (SumI w V.heap.size (.func (.func 94) #[] #[]) (sumP (fun i => enrE (l[i]?.getD el0).1 (sl[i]?.getD sp0).1 (sl[i]?.getD sp0).2 at') pre) W ∧ W.heap[b]? = some (.cells #[.int .i64 (l[x.val]?.getD el0).1, .int .i64 (l[x.val]?.getD el0).2.1, .bool (l[x.val]?.getD el0).2.2, .int .i64 (sl[x.val]?.getD sp0).1, .bool (sl[x.val]?.getD sp0).2, .int .i64 at'] 154)) ∧ (pre.length < n ∧ a' = { tmps := #[.slice a n c, .agg #[.int .i64 at', .slice a2 n c2], .func (.func 94) #[] #[], undef, .pointer (some ⟨w.heap.size, 0, none⟩), .pointer (some ⟨w.heap.size + 1, 0, none⟩), .int .i64 0, .pointer (some ⟨w.heap.size + 1 + 1, 0, none⟩), .pointer (some ⟨b, 0, none⟩), .slice a n c, .agg #[.int .i64 at', .slice a2 n c2], .func (.func 144) #[] #[.pointer (some ⟨w.heap.size + 3 + 1, 0, none⟩), .pointer (some ⟨w.heap.size + 3, 0, none⟩)], elAt l sl at' x.val, undef, undef, undef, undef, undef, undef], defers := [] }))
    ?own ?assign ?body ?done
  case own =>
    rintro pre x a' s W W' row ⟨b, ⟨h1, h2⟩, h3⟩ hg hr
    exact ⟨b, ⟨SumI.own w _ _ V.heap.size (fun _ => _) (by omega) () W W' row h1 hg hr, (keeps_of_grown hg (fun r e => (hr r e).2)).blk (by simp) h2⟩, h3⟩
  case assign =>
    rintro r pre x W K hi hlen hK
    simp only [elAt, elV] at hK ⊢
    have hW := hi.sz
    gi_wp2
    refine hK _ _ (KeepsOthers.alloc _ _) (Keeps.of_below ((Below.refl _ _).alloc (Nat.le_refl _) _)) ⟨W.heap.size, ⟨hi.keep ((Below.refl _ _).alloc (Nat.le_refl _) _), alloc_new _ _⟩, hlen, rfl⟩
  case body =>
    rintro r pre x a' W ⟨b, ⟨hS, hb⟩, hlen, rfl⟩
    have hEB := HB.out x.val x.isLt
    have hbd := sumP_bd (fun i => enrE (l[i]?.getD el0).1 (sl[i]?.getD sp0).1 (sl[i]?.getD sp0).2 at') 2500000000000 (fun i hi => by
      have := enr_bd (br := (sl[i]?.getD sp0).2) (HB.out i hi)
      exact this) pre
    have hfb := enr_bd (br := (sl[x.val]?.getD sp0).2) hEB
    rw [show sumP (fun i => enrE (l[i]?.getD el0).1 (sl[i]?.getD sp0).1 (sl[i]?.getD sp0).2 at') (pre ++ [x]) = sumP (fun i => enrE (l[i]?.getD el0).1 (sl[i]?.getD sp0).1 (sl[i]?.getD sp0).2 at') pre + enrE (l[x.val]?.getD el0).1 (sl[x.val]?.getD sp0).1 (sl[x.val]?.getD sp0).2 at' from sumP_snoc _ _ _]
    generalize sumP (fun i => enrE (l[i]?.getD el0).1 (sl[i]?.getD sp0).1 (sl[i]?.getD sp0).2 at') pre = s at hS hbd ⊢
    simp only [elAt, elV]
    generalize (l[x.val]?.getD el0).1 = e1 at *
    generalize (l[x.val]?.getD el0).2.1 = e2 at *
    generalize (l[x.val]?.getD el0).2.2 = e3 at *
    generalize (sl[x.val]?.getD sp0).1 = e4 at *
    generalize (sl[x.val]?.getD sp0).2 = e5 at *
    obtain ⟨f, hf⟩ : ∃ f, enrE e1 e4 e5 at' = f := ⟨_, rfl⟩
    rw [hf] at hfb ⊢
    have HF := Lib.hid hf
    clear hf
    have hsb : -20000000000000 ≤ s ∧ s ≤ 20000000000000 := by omega
    have g0 := cell_block hS.fn 0
    have g1 := cell_block hS.sum 0
    have g2 := cell_block hb 0
    have g3 := cell_block hb 1
    have g4 := cell_block hb 2
    have g5 := cell_block hb 3
    have g6 := cell_block hb 4
    have g7 := cell_block hb 5
    gi_wp2
    refine Calmly.wpIn_region_mix 4 (.fl 0 <| .fl 1 <| .fl 2 <| .eff 3 <| .tail [4, 5]) (by kernel_rfl) (by kernel_rfl) (by rintro a w ⟨h, _⟩; cases h) ?_
    have BD : Below W.heap.size W W.drew := (Below.refl _ _).drew
    have hk := Below.refl W.drew.heap.size W.drew
    go_wp2_with (first | ((with_reducible refine Calmly.is_fl ?_); refine Calmly.mix_fl rfl ?_ (fun _ _ => ?_); (first | exact .move _ | exact .load _ _ | exact .fieldAddr _ _ _ (by kernel_rfl) | exact .assign _ | exact .binOp _ _ _ _ _ rfl | exact .indexAddr _ _ _ | exact .len _ _ (by kernel_rfl) | exact .field _ _ _ | exact .extract _ _ | exact .pick _ _ _ | exact .build _ _ | exact .slice _ _ _ _ _ | exact .unOp _ _ _ rfl | exact .index _ _ _ | exact .max _ _ _ rfl rfl | exact .min _ _ _ rfl rfl | exact .nilCheck _ _ rfl)) | ((with_reducible refine Calmly.is_gl ?_); refine Calmly.mix_gl rfl rfl rfl ?_; first | ((first | with_reducible refine Calmly.gl_tt ?_ (fun _ _ => ?_) | with_reducible refine Calmly.gl_ff ?_ (fun _ _ => ?_)); (first | exact .move _ | exact .load _ _ | exact .fieldAddr _ _ _ (by kernel_rfl) | exact .assign _ | exact .binOp _ _ _ _ _ rfl | exact .indexAddr _ _ _ | exact .len _ _ (by kernel_rfl) | exact .field _ _ _ | exact .extract _ _ | exact .pick _ _ _ | exact .build _ _ | exact .slice _ _ _ _ _ | exact .unOp _ _ _ rfl | exact .index _ _ _ | exact .max _ _ _ rfl rfl | exact .min _ _ _ rfl rfl | exact .nilCheck _ _ rfl)) | with_reducible refine Calmly.gl_tf (fun _ _ => ?_) | with_reducible refine Calmly.gl_ft (fun _ _ => ?_)) | ((with_reducible refine Calmly.is_eff ?_); refine Calmly.mix_eff rfl (fun _ _ => ?_)) | ((with_reducible refine Calmly.is_gf ?_); refine Calmly.mix_gf rfl rfl rfl ?_; first | with_reducible refine Calmly.gf_tt (fun _ _ => ?_) | with_reducible refine Calmly.gf_ff (fun _ _ => ?_) | with_reducible refine Calmly.gf_tf (kept_of hk) (fun _ _ => ?_) | with_reducible refine Calmly.gf_ft (kept_of hk) (fun _ _ => ?_)) | ((with_reducible refine Calmly.is_tail ?_); first | refine Calmly.mix_tail_nil ?_ | refine Calmly.mix_tail rfl (fun _ _ => ?_)) | ((with_reducible refine Calmly.is_kept ?_); refine ⟨kept_of hk, ?_⟩) | (with_reducible refine Calmly.mix_alt ?_ ?_))
    refine (energy_any e1 e2 e3 e4 e5 at' _ hEB).mono ?_
    rintro e u1 ⟨rfl, hs⟩
    rw [HF.out]
    replace hk := step_of hk hs
    have BU := BD.trans (hs.mono BD.size)
    have hS2 := hS.keep BU
    have k1 := cell_block hS2.sum 0
    have k2 := frozen_block hS2.sum 0
    go_wp2_with (first | ((with_reducible refine Calmly.is_fl ?_); refine Calmly.mix_fl rfl ?_ (fun _ _ => ?_); (first | exact .move _ | exact .load _ _ | exact .fieldAddr _ _ _ (by kernel_rfl) | exact .assign _ | exact .binOp _ _ _ _ _ rfl | exact .indexAddr _ _ _ | exact .len _ _ (by kernel_rfl) | exact .field _ _ _ | exact .extract _ _ | exact .pick _ _ _ | exact .build _ _ | exact .slice _ _ _ _ _ | exact .unOp _ _ _ rfl | exact .index _ _ _ | exact .max _ _ _ rfl rfl | exact .min _ _ _ rfl rfl | exact .nilCheck _ _ rfl)) | ((with_reducible refine Calmly.is_gl ?_); refine Calmly.mix_gl rfl rfl rfl ?_; first | ((first | with_reducible refine Calmly.gl_tt ?_ (fun _ _ => ?_) | with_reducible refine Calmly.gl_ff ?_ (fun _ _ => ?_)); (first | exact .move _ | exact .load _ _ | exact .fieldAddr _ _ _ (by kernel_rfl) | exact .assign _ | exact .binOp _ _ _ _ _ rfl | exact .indexAddr _ _ _ | exact .len _ _ (by kernel_rfl) | exact .field _ _ _ | exact .extract _ _ | exact .pick _ _ _ | exact .build _ _ | exact .slice _ _ _ _ _ | exact .unOp _ _ _ rfl | exact .index _ _ _ | exact .max _ _ _ rfl rfl | exact .min _ _ _ rfl rfl | exact .nilCheck _ _ rfl)) | with_reducible refine Calmly.gl_tf (fun _ _ => ?_) | with_reducible refine Calmly.gl_ft (fun _ _ => ?_)) | ((with_reducible refine Calmly.is_eff ?_); refine Calmly.mix_eff rfl (fun _ _ => ?_)) | ((with_reducible refine Calmly.is_gf ?_); refine Calmly.mix_gf rfl rfl rfl ?_; first | with_reducible refine Calmly.gf_tt (fun _ _ => ?_) | with_reducible refine Calmly.gf_ff (fun _ _ => ?_) | with_reducible refine Calmly.gf_tf (kept_of hk) (fun _ _ => ?_) | with_reducible refine Calmly.gf_ft (kept_of hk) (fun _ _ => ?_)) | ((with_reducible refine Calmly.is_tail ?_); first | refine Calmly.mix_tail_nil ?_ | refine Calmly.mix_tail rfl (fun _ _ => ?_)) | ((with_reducible refine Calmly.is_kept ?_); refine ⟨kept_of hk, ?_⟩) | (with_reducible refine Calmly.mix_alt ?_ ?_))
    refine ⟨(ko_below BU).trans (KeepsOthers.setCell _ _ _), (Keeps.of_below BU).trans (Keeps.setCell _ _ _ rfl), hS2.bel.setCell (by show w.heap.size ≤ w.heap.size + 1 + 1; omega) _, ?_, ?_, ?_⟩
    · rw [Below.heap_setCell _ _ _ _ (by show w.heap.size + 1 ≠ w.heap.size + 1 + 1; omega)]
      exact hS2.fn
    · have := setBlk hS2.sum 0 (.int .i64 (s + f))
      simpa using this
    · have h9 := hS2.sz
      simp only [World.setCell, Array.size_modify]
      omega
  case done =>
    rintro D ys W hD hys hi hK
    rw [sumP_all _ _ _ hys] at hi
    have g1 := cell_block hi.sum 0
    go_wp2_with fail
    refine ⟨by simp, .inl ⟨_, _, rfl, run_takeDeferred hK, ?_⟩⟩
    exact ⟨.int .i64 _, by simp [results, Try.results93, go_sem], rfl, belowD hi.bel (by omega) hK⟩
end Go.Proofs.Ytaiikekgckjdeaa

namespace Go.Calmly
open Go
inductive PlanS where
  | fl (i : Nat) (k : PlanS)
  | ld (i : Nat) (k : PlanS)
  | eff (i : Nat) (k : PlanS)
  | alt (i : Nat) (k r : PlanS)
  | tail (l : List Nat)
section
variable (P : Program) (ops : Array Oper) (Q : Exit → Act → World → Prop) (w0 : World) (S : World → Prop)
def wpMixS : PlanS → Act → World → Prop
  | .fl i k, a, w => match ops[i]? with
    | none => False
    | some o => if Region.wanted o (yielded ops a.tmps) then Early P a.eval o.op ∧ o.wp P a w0 (fun a' w' => w' = w0 ∧ wpMixS k a' w) NoQ else wpMixS k (a.put o.dst undef) w
  | .ld i k, a, w => match ops[i]? with
    | none => False
    | some o => Region.wanted o (yielded ops a.tmps) = true ∧ ∃ v, (∀ u, S u → (execOp a.eval o).run P u = .ok (.value v) u) ∧ wpMixS k (a.put o.dst v) w
  | .eff i k, a, w => wpOp P ops NoQ i (fun a' w' => S w' ∧ wpMixS k a' w') a w
  | .alt i k r, a, w => wpOp P ops NoQ i (fun a' w' => S w' ∧ wpMixS k a' w') a w ∧ wpMixS r a w
  | .tail l, a, w => wpOps P ops Q l a w
def planOkS (md : Region.Mode) (n : Nat) : PlanS → Nat → Array Bool → List Nat → Bool
  | .fl i k, fuel, L, done => match fuel with
    | 0 => false
    | f + 1 => done.isEmpty && decide (i < n) && (Region.ready md ops L).contains i && Region.free md ops L i && planOkS md n k f (L.setIfInBounds i true) []
  | .ld i k, fuel, L, done => match fuel with
    | 0 => false
    | f + 1 => done.isEmpty && decide (i < n) && (Region.ready md ops L).contains i && Region.free md ops L i && planOkS md n k f (L.setIfInBounds i true) []
  | .eff i k, fuel, L, done => match fuel with
    | 0 => false
    | f + 1 => decide (i < n) && (Region.ready md ops L).contains i && (Region.ready md ops L).all (fun j => j == i || done.contains j) && planOkS md n k f (L.setIfInBounds i true) []
  | .alt i k r, fuel, L, done => match fuel with
    | 0 => false
    | f + 1 => decide (i < n) && (Region.ready md ops L).contains i && planOkS md n k f (L.setIfInBounds i true) [] && planOkS md n r (f + 1) L (i :: done)
  | .tail l, fuel, L, done => done.isEmpty && chainOk ops md n l fuel L
def stepS (n : Nat) (i : Nat) (K : Act → World → Prop) (a : Act) (w : World) : Prop :=
  if i < n then wpOp P ops NoQ i (fun a' w' => S w' ∧ K a' w') a w else wpOp P ops Q i K a w
def AnyS (md : Region.Mode) (n : Nat) : Nat → Array Bool → Act → World → Prop
  | 0, L, a, w => Region.ready md ops L = [] ∧ Q .normal a w
  | fuel + 1, L, a, w => (Region.ready md ops L = [] → Q .normal a w) ∧ ∀ i ∈ Region.ready md ops L, stepS P ops Q S n i (AnyS md n fuel (L.setIfInBounds i true)) a w
end
section
variable {P : Program} {ops : Array Oper} {Q : Exit → Act → World → Prop} {w0 : World} {S : World → Prop} {md : Region.Mode} {n : Nat}
theorem yields_mono {S' : World → Prop} {o : Oper} {v : Value} {a : Act} (h : ∀ u, S u → S' u) (hy : YieldsIf P ops S' o v a) : YieldsIf P ops S o v a :=
  hy.imp (fun ⟨hw, hv⟩ => ⟨hw, fun w hs => hv w (h w hs)⟩) id
theorem any_of_anyS : ∀ (fuel : Nat) (L : Array Bool) (a : Act) (w : World), AnyS P ops Q S md n fuel L a w → wpAny P md ops Q fuel L a w
  | 0, _, _, _, h => h
  | fuel + 1, L, a, w, h => ⟨h.1, fun i hi => by
      have h1 := h.2 i hi
      unfold stepS at h1
      split at h1
      · exact wpOp_noQ (fun a w hk => any_of_anyS fuel _ a w hk.2) h1
      · exact wpOp_mono (fun a w hk => any_of_anyS fuel _ a w hk) h1⟩
theorem yields_opS {i : Nat} {o : Oper} {v : Value} {a : Act} (hi : ops[i]? = some o) (hy : YieldsIf P ops S o v a)
    {K : Act → World → Prop} {w : World} (hS : S w) (h : K (a.put o.dst v) w) : wpOp P ops NoQ i (fun a' w' => S w' ∧ K a' w') a w :=
  hy.wpOp hi hS ⟨hS, h⟩
theorem anyS_first {i : Nat} {oi : Oper} {v : Value} (hi : ops[i]? = some oi) (hin : i < n) (hsel : ∀ (j : Nat) (o : Oper) cs b, ops[j]? = some o → o.op ≠ .select cs b)
    (htail : tailOk ops md n = true) :
    ∀ (fuel : Nat) (L : Array Bool) (a : Act) (w : World), Closed ops md L →
      (∀ j oj, ops[j]? = some oj → j ≠ i → L.getD j true = false → (∀ e ∈ oj.after, Region.binds md e = true → e.on ≠ i) → oi.apart ops oj = true) →
      i ∈ Region.ready md ops L → YieldsIf P ops S oi v a → S w →
      AnyS P ops Q S md n fuel (L.setIfInBounds i true) (a.put oi.dst v) w → AnyS P ops Q S md n (fuel + 1) L a w := by
  intro fuel
  induction fuel with
  | zero =>
    intro L a w _ _ hr hy hS H
    refine ⟨fun h => (by rw [h] at hr; cases hr), fun j hj => ?_⟩
    by_cases hji : j = i
    · subst hji
      unfold stepS
      rw [if_pos hin]
      exact yields_opS hi hy hS H
    · have := ready_mono hj hji
      rw [H.1] at this
      cases this
  | succ fuel ih =>
    intro L a w hcl hfree hr hy hS H
    refine ⟨fun h => (by rw [h] at hr; cases hr), fun j hj => ?_⟩
    by_cases hji : j = i
    · subst hji
      unfold stepS
      rw [if_pos hin]
      exact yields_opS hi hy hS H
    · have h1 := H.2 j (ready_mono hj hji)
      obtain ⟨hjun, oj, hoj, hall⟩ := mem_ready.1 hj
      have hnot : ∀ e ∈ oj.after, Region.binds md e = true → e.on ≠ i := fun e he hb heq => by
        have h1 := hall e he hb
        have h0 := (mem_ready.1 hr).1
        rw [heq] at h1
        rcases Nat.lt_or_ge i L.size with h' | h'
        · simp [h'] at h0 h1; rw [h0] at h1; cases h1
        · simp [Array.getElem?_eq_none h'] at h1
      have hjn : j < n := by
        rcases Nat.lt_or_ge j n with h' | h'
        · exact h'
        · have hjs : j < ops.size := (Array.getElem?_eq_some_iff.1 hoj).1
          unfold tailOk at htail
          rw [List.all_eq_true] at htail
          have h2 := htail j (List.mem_range.2 hjs)
          have h3 : ¬ j < n := by omega
          simp only [h3, decide_false, Bool.false_or, List.all_eq_true] at h2
          have h4 := waits_listed hcl 8 j i oj hoj hall (h2 i (List.mem_range.2 hin))
          have h0 := (mem_ready.1 hr).1
          rw [getD_both h0] at h4
          cases h4
      unfold stepS at h1 ⊢
      rw [if_pos hjn] at h1 ⊢
      have h2 := wpOp_putIf hoj (hfree j oj hoj hji hjun hnot) (fun cs b => hsel i oi cs b hi) (fun cs b => hsel j oj cs b hoj) (fun _ _ _ h => h) hy h1
      have hfree' : ∀ k ok, ops[k]? = some ok → k ≠ i → (L.setIfInBounds j true).getD k true = false →
          (∀ e ∈ ok.after, Region.binds md e = true → e.on ≠ i) → oi.apart ops ok = true := fun k ok hk hki hun hno => by
        refine hfree k ok hk hki ?_ hno
        by_cases hjk : j = k
        · subst hjk; exact hjun
        · rw [getD_set_ne true hjk] at hun; exact hun
      refine wpOp_mono (fun a' w' h3 => ⟨h3.2.1, ih (L.setIfInBounds j true) a' w' (closed_set hcl hj) hfree' (ready_mono hr (Ne.symm hji)) h3.1 h3.2.1 ?_⟩) h2
      rw [Array.setIfInBounds_comm _ _ hji]
      exact h3.2.2

theorem anyS_done {L : Array Bool} {a : Act} {w : World} (hr : Region.ready md ops L = []) (h : Q .normal a w) : ∀ fuel, AnyS P ops Q S md n fuel L a w
  | 0 => ⟨hr, h⟩
  | _ + 1 => ⟨fun _ => h, by rw [hr]; simp⟩

theorem chain_soundS : ∀ (l : List Nat) (fuel : Nat) (L : Array Bool) (a : Act) (w : World), chainOk ops md n l fuel L = true → wpOps P ops Q l a w → AnyS P ops Q S md n fuel L a w
  | [], fuel, L, a, w, hc, h => anyS_done (by simpa [chainOk] using hc) h fuel
  | i :: l, 0, L, a, w, hc, h => by simp [chainOk] at hc
  | i :: l, fuel + 1, L, a, w, hc, h => by
    simp only [chainOk, Bool.and_eq_true, decide_eq_true_eq, List.all_eq_true, beq_iff_eq] at hc
    obtain ⟨⟨⟨h1, h2⟩, h3⟩, h4⟩ := hc
    refine ⟨fun h0 => (by rw [h0] at h1; simp at h1), fun j hj => ?_⟩
    obtain rfl := h2 j hj
    unfold stepS
    rw [if_neg (by omega)]
    rw [wpOps_cons] at h
    exact wpOp_mono (fun a w hk => chain_soundS l fuel _ a w h4 hk) h

theorem mix_soundS (hSk : ∀ u, S u → Kept w0 u) (hsel : Region.noSelect ops = true) (htail : tailOk ops md n = true) : ∀ (p : PlanS) (fuel : Nat) (L : Array Bool) (done : List Nat) (a : Act) (w : World), Closed ops md L →
    planOkS ops md n p fuel L done = true → S w → wpMixS P ops Q w0 S p a w →
    (done = [] → AnyS P ops Q S md n fuel L a w) ∧ ∀ j ∈ Region.ready md ops L, j ∉ done → ∃ f, fuel = f + 1 ∧ stepS P ops Q S n j (AnyS P ops Q S md n f (L.setIfInBounds j true)) a w
  | .tail l, fuel, L, done, a, w, hcl, hok, hS, h => by
    simp only [planOkS, Bool.and_eq_true, List.isEmpty_iff] at hok
    obtain ⟨rfl, hc⟩ := hok
    have hA := chain_soundS (P := P) (S := S) l fuel L a w hc h
    refine ⟨fun _ => hA, fun j hj _ => ?_⟩
    cases fuel with
    | zero => rw [hA.1] at hj; cases hj
    | succ f => exact ⟨f, rfl, hA.2 j hj⟩
  | .fl i k, 0, L, done, a, w, hcl, hok, hS, h => by simp [planOkS] at hok
  | .ld i k, 0, L, done, a, w, hcl, hok, hS, h => by simp [planOkS] at hok
  | .eff i k, 0, L, done, a, w, hcl, hok, hS, h => by simp [planOkS] at hok
  | .alt i k r, 0, L, done, a, w, hcl, hok, hS, h => by simp [planOkS] at hok
  | .fl i k, fuel + 1, L, done, a, w, hcl, hok, hS, h => by
    simp only [planOkS, Bool.and_eq_true, List.isEmpty_iff, decide_eq_true_eq] at hok
    obtain ⟨⟨⟨⟨rfl, hin⟩, hr⟩, hf⟩, hk⟩ := hok
    have hr' : i ∈ Region.ready md ops L := by simpa using hr
    suffices hA : AnyS P ops Q S md n (fuel + 1) L a w by exact ⟨fun _ => hA, fun j hj _ => ⟨fuel, rfl, hA.2 j hj⟩⟩
    cases ho : ops[i]? with
    | none => simp only [wpMixS, ho] at h
    | some o =>
      simp only [wpMixS, ho] at h
      split at h
      · rename_i hw
        obtain ⟨v, hy0, hK⟩ := early_yields hw h.1 h.2
        have hy : YieldsIf P ops S o v a := yields_mono hSk hy0
        exact anyS_first ho hin (Region.noSelect_spec hsel) htail fuel L a w hcl (Region.free_spec ho hf) hr' hy hS ((mix_soundS hSk hsel htail k fuel _ [] _ w (closed_set hcl hr') hk hS hK).1 rfl)
      · rename_i hw
        exact anyS_first ho hin (Region.noSelect_spec hsel) htail fuel L a w hcl (Region.free_spec ho hf) hr' (v := undef) (.inr ⟨by simpa using hw, rfl⟩) hS ((mix_soundS hSk hsel htail k fuel _ [] _ w (closed_set hcl hr') hk hS h).1 rfl)
  | .ld i k, fuel + 1, L, done, a, w, hcl, hok, hS, h => by
    simp only [planOkS, Bool.and_eq_true, List.isEmpty_iff, decide_eq_true_eq] at hok
    obtain ⟨⟨⟨⟨rfl, hin⟩, hr⟩, hf⟩, hk⟩ := hok
    have hr' : i ∈ Region.ready md ops L := by simpa using hr
    suffices hA : AnyS P ops Q S md n (fuel + 1) L a w by exact ⟨fun _ => hA, fun j hj _ => ⟨fuel, rfl, hA.2 j hj⟩⟩
    cases ho : ops[i]? with
    | none => simp only [wpMixS, ho] at h
    | some o =>
      simp only [wpMixS, ho] at h
      obtain ⟨hw, v, hy, hK⟩ := h
      exact anyS_first ho hin (Region.noSelect_spec hsel) htail fuel L a w hcl (Region.free_spec ho hf) hr' (.inl ⟨hw, hy⟩) hS ((mix_soundS hSk hsel htail k fuel _ [] _ w (closed_set hcl hr') hk hS hK).1 rfl)
  | .eff i k, fuel + 1, L, done, a, w, hcl, hok, hS, h => by
    simp only [planOkS, Bool.and_eq_true, decide_eq_true_eq, List.all_eq_true, Bool.or_eq_true, beq_iff_eq] at hok
    obtain ⟨⟨⟨hin, hr⟩, hall⟩, hk⟩ := hok
    have hr' : i ∈ Region.ready md ops L := by simpa using hr
    have hst : stepS P ops Q S n i (AnyS P ops Q S md n fuel (L.setIfInBounds i true)) a w := by
      unfold stepS
      rw [if_pos hin]
      exact wpOp_mono (fun a' w' hh => ⟨hh.1, (mix_soundS hSk hsel htail k fuel _ [] _ w' (closed_set hcl hr') hk hh.1 hh.2).1 rfl⟩) h
    have hone : ∀ j ∈ Region.ready md ops L, j ∉ done → j = i := fun j hj hd => by
      rcases hall j hj with h1 | h1
      · exact h1
      · exact absurd (by simpa using h1) hd
    refine ⟨fun hd => ⟨fun h0 => (by rw [h0] at hr'; cases hr'), fun j hj => ?_⟩, fun j hj hd => ⟨fuel, rfl, ?_⟩⟩
    · obtain rfl := hone j hj (by rw [hd]; simp)
      exact hst
    · obtain rfl := hone j hj hd
      exact hst
  | .alt i k r, fuel + 1, L, done, a, w, hcl, hok, hS, h => by
    simp only [planOkS, Bool.and_eq_true, decide_eq_true_eq] at hok
    obtain ⟨⟨⟨hin, hr⟩, hk⟩, hrest⟩ := hok
    have hr' : i ∈ Region.ready md ops L := by simpa using hr
    have hst : stepS P ops Q S n i (AnyS P ops Q S md n fuel (L.setIfInBounds i true)) a w := by
      unfold stepS
      rw [if_pos hin]
      exact wpOp_mono (fun a' w' hh => ⟨hh.1, (mix_soundS hSk hsel htail k fuel _ [] _ w' (closed_set hcl hr') hk hh.1 hh.2).1 rfl⟩) h.1
    have hR := (mix_soundS hSk hsel htail r (fuel + 1) L (i :: done) a w hcl hrest hS h.2).2
    have hall : ∀ j ∈ Region.ready md ops L, j ∉ done → stepS P ops Q S n j (AnyS P ops Q S md n fuel (L.setIfInBounds j true)) a w := fun j hj hd => by
      by_cases hji : j = i
      · subst hji; exact hst
      · obtain ⟨f, hf, hh⟩ := hR j hj (by simp [hji, hd])
        obtain rfl : fuel = f := by omega
        exact hh
    exact ⟨fun hd => ⟨fun h0 => (by rw [h0] at hr'; cases hr'), fun j hj => hall j hj (by rw [hd]; simp)⟩, fun j hj hd => ⟨fuel, rfl, hall j hj hd⟩⟩


structure WpMixS (P : Program) (ops : Array Oper) (Q : Exit → Act → World → Prop) (w0 : World) (S : World → Prop) (p : PlanS) (a : Act) (w : World) : Prop where
  out : wpMixS P ops Q w0 S p a w
theorem wp_region_mixS {id : Nat} {a : Act} {w : World} {l : List Oper} (w0 : World) (S : World → Prop) (hSk : ∀ u, S u → Kept w0 u) (hS : S w.drew) (n : Nat) (p : PlanS) (hm : P.follows .mixedOrders = true)
    (hB : (Region.noSelect l.toArray && tailOk l.toArray .any n && planOkS l.toArray .any n p l.toArray.size (Array.replicate l.toArray.size false) []) = true)
    (h : WpMixS P l.toArray Q w0 S p a w.drew) : (Code.region id l.toArray true).wp P Q a w := by
  simp only [Bool.and_eq_true] at hB
  obtain ⟨⟨h1, h2⟩, h3⟩ := hB
  exact wp_region_any hm (any_of_anyS _ _ _ _ ((mix_soundS hSk h1 h2 p _ _ [] a _ (closed_start _) h3 hS h.out).1 rfl))
theorem wpIn_region_mixS {id r m : Nat} {a : Act} {w : World} {l : List Oper} (w0 : World) (S : World → Prop) (hSk : ∀ u, S u → Kept w0 u) (hS : S w.drew) (n : Nat) (p : PlanS) (hm : P.follows .mixedOrders = true)
    (hB : (noDefer l && (Region.noSelect l.toArray && tailOk l.toArray .any n && planOkS l.toArray .any n p l.toArray.size (Array.replicate l.toArray.size false) [])) = true) (hQ : ∀ a w, ¬ Q .outgrown a w)
    (h : WpMixS P l.toArray Q w0 S p a w.drew) : (Code.region id l.toArray true).wpIn (Fence.wide.inRound r) m P Q a w := by
  simp only [Bool.and_eq_true] at hB
  obtain ⟨h0, ⟨h1, h2⟩, h3⟩ := hB
  exact wpIn_region_any hm (anyIn (noDefer_ops h0) hQ _ _ _ _ (any_of_anyS _ _ _ _ ((mix_soundS hSk h1 h2 p _ _ [] a _ (closed_start _) h3 hS h.out).1 rfl)))
/-! ### The moves -/
theorem isS_fl {i : Nat} {k : PlanS} {a : Act} {w : World} (h : WpMixS P ops Q w0 S (.fl i k) a w) : WpMixS P ops Q w0 S (.fl i k) a w := h
theorem isS_ld {i : Nat} {k : PlanS} {a : Act} {w : World} (h : WpMixS P ops Q w0 S (.ld i k) a w) : WpMixS P ops Q w0 S (.ld i k) a w := h
theorem isS_eff {i : Nat} {k : PlanS} {a : Act} {w : World} (h : WpMixS P ops Q w0 S (.eff i k) a w) : WpMixS P ops Q w0 S (.eff i k) a w := h
theorem isS_tail {l : List Nat} {a : Act} {w : World} (h : WpMixS P ops Q w0 S (.tail l) a w) : WpMixS P ops Q w0 S (.tail l) a w := h
theorem mixS_fl {i : Nat} {k : PlanS} {dst : Option Tmp} {op : Op} {ty : TypeId} {pos : String} {after : Array Edge} {a : Act} {w : World} (hi : ops[i]? = some ⟨dst, op, ty, pos, after, none⟩) (he : Early P a.eval op)
    (h : ∀ K : Act → World → Prop, (∀ a', WpMixS P ops Q w0 S k a' w → K a' w0) → Oper.wp P ⟨dst, op, ty, pos, after, none⟩ a w0 K NoQ) : WpMixS P ops Q w0 S (.fl i k) a w := by
  refine ⟨?_⟩
  simp only [wpMixS, hi, Region.wanted, if_true]
  exact ⟨he, h _ fun a' hh => ⟨rfl, hh.out⟩⟩
/-- A load of one cell that all worlds of S have. -/
theorem mixS_ld {i : Nat} {k : PlanS} {dst : Option Tmp} {t : TypeId} {x : Operand} {ty : TypeId} {pos : String} {after : Array Edge} {a : Act} {w : World} {p : Addr} {v : Value} (hi : ops[i]? = some ⟨dst, .load t x, ty, pos, after, none⟩) (hc : ∀ u, S u → u.cell? p = some v)
    (hl : ∀ u : World, u.cell? p = some v → (execOp a.eval ⟨dst, .load t x, ty, pos, after, none⟩).run P u = .ok (.value v) u)
    (h : ∀ K : Act → World → Prop, (∀ a', WpMixS P ops Q w0 S k a' w → K a' w) → Oper.wp P ⟨dst, .assign (.const v), ty, pos, after, none⟩ a w K NoQ) : WpMixS P ops Q w0 S (.ld i k) a w := by
  refine ⟨?_⟩
  simp only [wpMixS, hi, wanted_none, true_and]
  exact ⟨v, fun u hu => hl u (hc u hu), h (fun a' _ => wpMixS P ops Q w0 S k a' w) (fun _ hh => hh.out)⟩
theorem mixS_eff {i : Nat} {k : PlanS} {dst : Option Tmp} {op : Op} {ty : TypeId} {pos : String} {after : Array Edge} {a : Act} {w : World} (hi : ops[i]? = some ⟨dst, op, ty, pos, after, none⟩)
    (h : ∀ K : Act → World → Prop, (∀ a' w', S w' ∧ WpMixS P ops Q w0 S k a' w' → K a' w') → Oper.wp P ⟨dst, op, ty, pos, after, none⟩ a w K NoQ) : WpMixS P ops Q w0 S (.eff i k) a w := by
  refine ⟨?_⟩
  exact op_of hi (wanted_none rfl) (h _ fun _ _ hh => ⟨hh.1, hh.2.out⟩)
theorem mixS_tail_nil {a : Act} {w : World} (h : Q .normal a w) : WpMixS P ops Q w0 S (.tail []) a w := ⟨h⟩
theorem mixS_tail {i : Nat} {l : List Nat} {dst : Option Tmp} {op : Op} {ty : TypeId} {pos : String} {after : Array Edge} {a : Act} {w : World} (hi : ops[i]? = some ⟨dst, op, ty, pos, after, none⟩)
    (h : ∀ K : Act → World → Prop, (∀ a' w', WpMixS P ops Q w0 S (.tail l) a' w' → K a' w') → Oper.wp P ⟨dst, op, ty, pos, after, none⟩ a w K Q) : WpMixS P ops Q w0 S (.tail (i :: l)) a w := by
  refine ⟨?_⟩
  show wpOps P ops Q (i :: l) a w
  rw [wpOps_cons]
  exact op_of hi (wanted_none rfl) (h _ fun _ _ hh => hh.out)
end
end Go.Calmly
