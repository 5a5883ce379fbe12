/- Chapter 2: what a loop over all lists of times keeps, and rows that are grown anew. Contracts of chapter 2: the end of a record. Contracts of chapter 2: the first error of items, and the errors of oscillators, bands, waves and times. -/
import Derived.Test.YtiibdndchkbefaaK05
import Derived.ArgAppend
namespace Go.Proofs.Ytiibdndchkbefaa
open Go.RowKit Go.Shelf
open Calmly (Kept)

/-- All cells are as they were, but for those of some blocks. -/
structure Keeps (L : List Nat) (A B : World) : Prop where
  size : A.heap.size ≤ B.heap.size
  same : ∀ b o, b ∉ L → A.heap[b]? = some o → o.isCells = true → B.heap[b]? = some o
theorem Keeps.refl (L : List Nat) (A : World) : Keeps L A A := ⟨Nat.le_refl _, fun _ _ _ h _ => h⟩
theorem Keeps.trans {L : List Nat} {A B C : World} (h : Keeps L A B) (k : Keeps L B C) : Keeps L A C := ⟨Nat.le_trans h.size k.size, fun b o hb ho hc => k.same b o hb (h.same b o hb ho hc) hc⟩
theorem Keeps.of_below {L : List Nat} {A B : World} (h : Below A.heap.size A B) : Keeps L A B := ⟨h.size, fun b _ _ ho _ => (h.block b (Array.getElem?_eq_some_iff.1 ho).1).trans ho⟩
theorem Keeps.drew {L : List Nat} (A : World) : Keeps L A A.drew := ⟨Nat.le_refl _, fun _ _ _ h _ => h⟩
theorem Keeps.put {L : List Nat} {W : World} {l : Nat} {o : Obj} (o' : Obj) (hl : W.heap[l]? = some o) (ho : o.isCells = false) : Keeps L W (W.putObj l o') := ⟨by simp, fun b ob _ hb hc => by
  refine (World.putObj_heap_other ?_).trans hb
  rintro rfl
  rw [hl] at hb
  cases hb
  rw [ho] at hc
  cases hc⟩
theorem Keeps.setCell {L : List Nat} (W : World) {b : Nat} (o : Nat) (v : Value) (h : b ∈ L) : Keeps L W (W.setCell ⟨b, o, none⟩ v) := ⟨by simp, fun k ob hk hb _ => by
  rw [Below.heap_setCell _ _ _ _ (by rintro rfl; exact hk h)]
  exact hb⟩
theorem cell_blk {w : World} {b o : Nat} {v : Value} (h : w.cell? ⟨b, o, none⟩ = some v) : ∃ cs t z, w.heap[b]? = some (.cells cs t z) := by
  unfold World.cell? at h
  cases hb : w.heap[b]? with
  | none => simp [hb] at h
  | some ob =>
    cases ob <;> simp [hb] at h
    exact ⟨_, _, _, rfl⟩
theorem Keeps.cell {L : List Nat} {A B : World} (h : Keeps L A B) {b o : Nat} {v : Value} (hb : b ∉ L) (hc : A.cell? ⟨b, o, none⟩ = some v) : B.cell? ⟨b, o, none⟩ = some v := by
  obtain ⟨cs, t, z, hh⟩ := cell_blk hc
  rw [World.cell?_of_block ((h.same b _ hb hh rfl).trans hh.symm)]
  exact hc
theorem Keeps.blk {L : List Nat} {A B : World} (h : Keeps L A B) {b : Nat} {cs : Array Value} {t : TypeId} (hb : b ∉ L) (hc : A.heap[b]? = some (.cells cs t)) : B.heap[b]? = some (.cells cs t) := h.same b _ hb hc rfl
theorem Keeps.si {L : List Nat} {A B : World} (h : Keeps L A B) {a : Option Addr} {n c : Nat} {xs : List Int} (hs : SI A a n c xs) (hL : ∀ b o, a = some ⟨b, o, none⟩ → b ∉ L) : SI B a n c xs := by
  obtain ⟨h1, h2, h3, h4⟩ := hs
  refine ⟨h1, h2, h3, ?_⟩
  rcases h4 with h4 | ⟨b, off, ha, hc⟩
  · exact .inl h4
  · refine .inr ⟨b, off, ha, fun i hi => ?_⟩
    have := hc i hi
    have hs : i < (xs.map (Value.int .i64)).length := by omega
    rw [List.getElem?_eq_getElem hs] at this ⊢
    exact h.cell (hL b off ha) this
theorem OwI.keeps {L : List Nat} {A B : World} {B0 : Nat} {a : Option Addr} {n c : Nat} {xs : List Int} (hs : OwI A B0 a n c xs) (h : Keeps L A B) (hL : ∀ b, b ∈ L → b < B0) : OwI B B0 a n c xs := by
  obtain ⟨h1, h2⟩ := hs
  refine ⟨h1, ?_⟩
  rcases h2 with h2 | ⟨g, cap, cur, hv, hg, hh, r⟩
  · exact .inl h2
  · exact .inr ⟨g, cap, cur, hv, hg, h.same g _ (fun hm => by have := hL g hm; omega) hh rfl, r⟩
theorem OwI.ge {A : World} {B0 : Nat} {a : Option Addr} {n c : Nat} {xs : List Int} (hs : OwI A B0 a n c xs) : ∀ b o, a = some ⟨b, o, none⟩ → B0 ≤ b := by
  rintro b o rfl
  obtain ⟨h1, h2⟩ := hs
  rcases h2 with ⟨h2, _⟩ | ⟨g, cap, cur, hv, hg, r⟩
  · cases h2
  · cases hv
    exact hg

/-- 'append' to a slice that is full: a row of its own, whatever the slice was. -/
theorem appG {ops : Array Oper} {rest : List Oper} {o : Oper} {a : Act} {Q : Exit → Act → World → Prop} {w0 : World} {av : Option Addr} {n c : Nat} {xs : List Int} {v : Int} (hgd : o.guard = none) (s x : Operand)
    (ho : o.op = .call { callee := .builtin .append, args := #[s, x], argTypes := #[22, 22] })
    (hsi : SI w0 av n c xs) (hc : c = n) (hs : a.eval s = .slice av n c) (hx : a.eval x = .slice (some ⟨w0.heap.size, 0, none⟩) 1 1) (hb1 : n + 1 ≤ 17592186044416)
    (h : ∀ a' c' w', OwI w' w0.heap.size a' (n + 1) c' (xs ++ [v]) → Below w0.heap.size w0 w' → w0.heap.size < w'.heap.size → wpList Try.prog ops Q rest (a.put o.dst (.slice a' (n + 1) c')) w') :
    wpList Try.prog ops Q (o :: rest) a (w0.alloc (.cells #[.int .i64 v] 3)) := by
  obtain ⟨i0, hi, hz0, hz1, hz2⟩ := info_parts Try.info_int
  have hb : Below w0.heap.size w0 (w0.alloc (.cells #[.int .i64 v] 3)) := (Below.refl _ _).alloc (Nat.le_refl _) _
  have hsi' := hsi.keep hb
  refine wpList_append_grows _ hgd s x _ ho _ i0 (.int .i64 0) 1 8 Try.underlying22 hi hz0 hz1 hz2 rfl (by decide) av n c (xs.map (Value.int .i64)) hs ?_ ?_ ?_ ⟨w0.heap.size, 0, none⟩ 1 1 [Value.int .i64 v] hx rfl (cells_new w0 _ _) (by simp [Value.oneCell']) (by omega) (by unfold maxLen; omega) (by omega) ?_
  · rintro rfl
    exact ⟨hsi.none_.1, hsi.none_.2.1⟩
  · have := hsi.len
    simp
    omega
  · rintro b rfl j u hj
    have hjl : j < (xs.map (Value.int .i64)).length := (List.getElem?_eq_some_iff.1 hj).1
    obtain ⟨h1, _, _, h4⟩ := hsi'
    rcases h4 with h4 | ⟨b', off, hb', hcell⟩
    · have : (xs.map (Value.int .i64)).length = 0 := by omega
      omega
    · cases hb'
      rw [Addr.add_lit, hcell j (by omega)]
      exact hj
  · intro v' w1 ho1 hg
    obtain ⟨a', c', rfl⟩ := owns_slice ho1
    have hsz := hg.size
    refine h a' c' w1 ?_ (hb.trans (grown_below hg (by simp) (fun k hk => by cases hk))) (by simp at hsz; omega)
    have ho2 : w1.ownsRow w0.heap.size 3 1 (.slice a' (n + 1) c') (n + 1) ((xs ++ [v]).map (Value.int .i64)) := by
      obtain ⟨k1, k2⟩ := ho1
      refine ⟨by simpa using k1, ?_⟩
      rcases k2 with k2 | ⟨g, cap, cur, hv, hg', r⟩
      · exact .inl k2
      · exact .inr ⟨g, cap, cur, hv, by simp at hg'; omega, by simpa using r⟩
    exact ho2
end Go.Proofs.Ytiibdndchkbefaa

namespace Go.Proofs.Ytiibdndchkbefaa
open Go.RowKit
open Calmly (Kept)

set_option maxRecDepth 100000 in
set_option maxHeartbeats 1000000 in
theorem EndOf_any (step : Int) (a : Option Addr) (n c : Nat) (xs : List Int) (w : World) (h1 : SI w a n c xs) (E V D : Int) (hE : (recF step xs).2 = E) (hno : E ≠ 0 → V = 0 ∧ D = 0) (hok : E = 0 → sumT xs n = V ∧ sumT (sumsF xs) n = D) :
    Calls Try.prog 33 #[.agg #[.int .i64 step, .slice a n c]] w fun e w' => e = .returned (.tuple #[.agg #[.int .i64 V, .int .i64 D], .int .i64 E]) ∧ Below w.heap.size w w' := by
  have hb2 : Below w.heap.size w ((w.alloc (.cells #[.int .i64 step, .slice a n c] 24)).alloc (.cells #[.int .i64 0, .int .i64 0] 58)) := ((Below.refl _ _).alloc (Nat.le_refl _) _).alloc (by simp) _
  have HE := Lib.hid hE
  have HNO := Lib.hid hno
  have HOK := Lib.hid hok
  clear hE hno hok
  have m1 := h1.max
  have c1 := h1.cap
  go_enter Try.func33, Try.ntmps33
  go_wp2_with fail
  refine (recordErr_any step a n c xs _ (h1.keep hb2) E HE.out).mono ?_
  rintro e w1 ⟨rfl, hs⟩
  obtain ⟨x1, x2⟩ := box2 (w := w) (o := .cells #[.int .i64 step, .slice a n c] 24) (o' := .cells #[.int .i64 0, .int .i64 0] 58) hs
  have BW := hb2.trans (hs.mono hb2.size)
  have hlt := blk_lt x2
  clear hs
  have f0 := cell_block x1 0
  have f1 := cell_block x1 1
  have g0 := cell_block x2 0
  have g1 := cell_block x2 1
  have g2 := frozen_block x2 0
  have g3 := frozen_block x2 1
  by_cases hz : E = 0
  case neg =>
    obtain ⟨rfl, rfl⟩ := HNO.out hz
    have b1 : (E != 0) = true := by simpa using hz
    clear hz
    go_wp2_with fail
    obtain ⟨s1, s2, s3, s4⟩ := set2 (x := .int .i64 0) (y := .int .i64 0) g0 g1
    refine bodyPost_ret (v := .tuple #[.agg #[.int .i64 0, .int .i64 0], .int .i64 E]) (by simp [results, Try.results33, go_sem, s1, s2]) rfl ⟨rfl, ?_⟩
    exact (BW.setCell (by simp) _).setCell (by simp) _
  subst hz
  obtain ⟨hV, hD⟩ := HOK.out rfl
  obtain ⟨q1, q2, q3, q4, q5⟩ := recF_ok HE.out
  have hl := h1.len
  have hn0 : 0 < n := by omega
  have hn : n ≤ 26 := by omega
  have H5 := Lib.hid q5
  have HV := Lib.hid hV
  have HD := Lib.hid hD
  clear q1 q2 q3 q4 q5 hV hD hl
  go_wp2_with fail
  refine (end_any a n c xs _ (h1.keep BW) hn0 hn H5.out V D HV.out HD.out).mono ?_
  rintro e w2 ⟨rfl, hs⟩
  replace x2 := blk_keep x2 hs
  replace BW := BW.trans (hs.mono BW.size)
  clear f0 f1 g0 g1 g2 g3 hs
  have g0 := cell_block x2 0
  have g1 := cell_block x2 1
  have g2 := frozen_block x2 0
  have g3 := frozen_block x2 1
  go_wp2_with fail
  obtain ⟨s1, s2, s3, s4⟩ := set2 (x := .int .i64 V) (y := .int .i64 D) g0 g1
  refine bodyPost_ret (v := .tuple #[.agg #[.int .i64 V, .int .i64 D], .int .i64 0]) (by simp [results, Try.results33, go_sem, s1, s2]) rfl ⟨rfl, ?_⟩
  exact (BW.setCell (by simp) _).setCell (by simp) _
end Go.Proofs.Ytiibdndchkbefaa

namespace Go.Proofs.Ytiibdndchkbefaa
open Go.RowKit
open Calmly (Kept)

theorem store_fn (P : Program) (w : World) (a : Addr) (m : Mode) (fn : Fn) (first captured : Array Value) : (store a (.func fn first captured) m).run P w = stored P w a (.func fn first captured) m := run_store P w a _ m rfl
attribute [local go_sem] store_fn

set_option maxHeartbeats 400000 in
theorem oscillatorErr_any (st dm : Int) (w : World) : Calls Try.prog 101 #[.agg #[.int .i64 st, .int .i64 dm]] w fun e w' => e = .returned (.int .i64 (oscE (st, dm))) ∧ Below w.heap.size w w' := by
  have BW : Below w.heap.size w (w.alloc (.cells #[.int .i64 st, .int .i64 dm] 49)) := (Below.refl _ _).alloc (Nat.le_refl _) _
  cases hs : wIn st 0 3000
  · have hE : oscE (st, dm) = unlessE false 2 := by simp [oscE, hs]
    rw [hE]
    go_enter Try.func101, Try.ntmps101
    go_wp2_with fail
    refine (nWithin_any _ _ _ _).mono ?_
    rintro e w1 ⟨rfl, rfl⟩
    go_wp2_with fail
    refine (nUnless_any _ _ _).mono ?_
    rintro e w1 ⟨rfl, rfl⟩
    go_wp2_with fail
    go_ret
    exact ⟨rfl, BW⟩
  · have hE : oscE (st, dm) = unlessE (wIn dm 0 500) 2 := by simp [oscE, hs]
    rw [hE]
    go_enter Try.func101, Try.ntmps101
    go_wp2_with fail
    refine (nWithin_any _ _ _ _).mono ?_
    rintro e w1 ⟨rfl, rfl⟩
    go_wp2_with fail
    refine (nWithin_any _ _ _ _).mono ?_
    rintro e w1 ⟨rfl, rfl⟩
    go_wp2_with fail
    refine (nUnless_any _ _ _).mono ?_
    rintro e w1 ⟨rfl, rfl⟩
    go_wp2_with fail
    go_ret
    exact ⟨rfl, BW⟩

set_option maxHeartbeats 400000 in
theorem isPeak_any (x : Int) (w : World) : Calls Try.prog 140 #[.int .i64 x] w fun e w' => e = .returned (.bool (wIn x 0 1000000)) ∧ w = w' := by
  go_enter Try.func140, Try.ntmps140
  go_wp2_with fail
  refine (nWithin_any _ _ _ _).mono ?_
  rintro e w1 ⟨rfl, rfl⟩
  go_wp2_with fail
  go_ret
  exact ⟨rfl, rfl⟩

set_option maxHeartbeats 400000 in
theorem timErr_any (x : Int) (w : World) : Calls Try.prog 156 #[.int .i64 x] w fun e w' => e = .returned (.int .i64 (timE x)) ∧ Below w.heap.size w w' := by
  go_enter Try.func156, Try.ntmps156
  go_wp2_with fail
  refine (nSized_any x 2 _ (by omega) (by omega)).mono ?_
  rintro e w1 ⟨rfl, rfl⟩
  go_wp2_with fail
  refine (nUnless_any _ _ _).mono ?_
  rintro e w1 ⟨rfl, rfl⟩
  go_wp2_with fail
  go_ret
  exact ⟨rfl, Below.refl _ _⟩

set_option maxRecDepth 100000 in
set_option maxHeartbeats 1000000 in
theorem bndErr_any (st dm lo hi : Int) (pb : Nat) (w : World) (h1 : w.heap[pb]? = some (.cells #[.func (.func 140) #[] #[]] 124)) :
    Calls Try.prog 142 #[.agg #[.int .i64 st, .int .i64 dm, .int .i64 lo, .int .i64 hi], .pointer (some ⟨pb, 0, none⟩)] w fun e w' => e = .returned (.int .i64 (bndE ((st, dm), (lo, hi)))) ∧ Below w.heap.size w w' := by
  have hb : ∀ o, Below w.heap.size w (w.alloc o) := fun o => (Below.refl _ _).alloc (Nat.le_refl _) _
  obtain ⟨E, hE⟩ : ∃ E, bndE ((st, dm), (lo, hi)) = E := ⟨_, rfl⟩
  rw [hE]
  have HE := Lib.hid hE
  clear hE
  have x1 := alloc_new w (.cells #[.int .i64 st, .int .i64 dm, .int .i64 lo, .int .i64 hi] 51)
  have x2 := blk_keep h1 (hb (.cells #[.int .i64 st, .int .i64 dm, .int .i64 lo, .int .i64 hi] 51))
  go_enter Try.func142, Try.ntmps142
  go_wp2_with fail
  refine Calmly.wp_region_mix 26 (.fl 0 <| .fl 1 <| .fl 3 <| .fl 4 <| .fl 5 <| .fl 6 <| .fl 16 <| .fl 17 <| .fl 18 <| .fl 19 <| .fl 20 <| .fl 21 <| .fl 22 <| .eff 2 <| .eff 7 <| .fl 8 <| .gl 9 <| .gl 10 <| .gl 11 <| .gl 12 <| .gf 13 <| .fl 14 <| .eff 15 <| .eff 23 <| .eff 24 <| .eff 25 <| .tail [26]) (by kernel_rfl) (by kernel_rfl) ?_
  have BW := (hb (.cells #[.int .i64 st, .int .i64 dm, .int .i64 lo, .int .i64 hi] 51)).drew
  replace x1 := blk_keep x1 (Below.refl _ _).drew
  replace x2 := blk_keep x2 (Below.refl _ _).drew
  generalize World.drew _ = V at x1 x2 BW ⊢
  have f0 := cell_block x1 0
  have f1 := cell_block x1 1
  have f2 := cell_block x1 2
  have f3 := cell_block x1 3
  have f4 := cell_block x2 0
  have hk := Below.refl V.heap.size V
  cases hlo : wIn lo 0 1000000
  all_goals
    go_wp2_with (first | ((with_reducible refine Calmly.is_fl ?_); refine Calmly.mix_fl rfl ?_ (fun _ _ => ?_); (first | exact .move _ | exact .load _ _ | exact .fieldAddr _ _ _ (by kernel_rfl) | exact .assign _ | exact .binOp _ _ _ _ _ rfl | exact .indexAddr _ _ _ | exact .len _ _ (by kernel_rfl) | exact .field _ _ _ | exact .extract _ _ | exact .pick _ _ _ | exact .build _ _ | exact .slice _ _ _ _ _ | exact .unOp _ _ _ rfl | exact .index _ _ _ | exact .max _ _ _ rfl rfl | exact .min _ _ _ rfl rfl)) | ((with_reducible refine Calmly.is_gl ?_); refine Calmly.mix_gl rfl rfl rfl ?_; first | ((first | with_reducible refine Calmly.gl_tt ?_ (fun _ _ => ?_) | with_reducible refine Calmly.gl_ff ?_ (fun _ _ => ?_)); (first | exact .move _ | exact .load _ _ | exact .fieldAddr _ _ _ (by kernel_rfl) | exact .assign _ | exact .binOp _ _ _ _ _ rfl | exact .indexAddr _ _ _ | exact .len _ _ (by kernel_rfl) | exact .field _ _ _ | exact .extract _ _ | exact .pick _ _ _ | exact .build _ _ | exact .slice _ _ _ _ _ | exact .unOp _ _ _ rfl | exact .index _ _ _ | exact .max _ _ _ rfl rfl | exact .min _ _ _ rfl rfl)) | with_reducible refine Calmly.gl_tf (fun _ _ => ?_) | with_reducible refine Calmly.gl_ft (fun _ _ => ?_)) | ((with_reducible refine Calmly.is_eff ?_); refine Calmly.mix_eff rfl (fun _ _ => ?_)) | ((with_reducible refine Calmly.is_gf ?_); refine Calmly.mix_gf rfl rfl rfl ?_; first | with_reducible refine Calmly.gf_tt (fun _ _ => ?_) | with_reducible refine Calmly.gf_ff (fun _ _ => ?_) | with_reducible refine Calmly.gf_tf (kept_of hk) (fun _ _ => ?_) | with_reducible refine Calmly.gf_ft (kept_of hk) (fun _ _ => ?_)) | ((with_reducible refine Calmly.is_kept ?_); refine ⟨kept_of hk, ?_⟩) | (with_reducible refine Calmly.mix_alt ?_ ?_) | (refine kept_alloc hk (fun hk' hblk hge => ?_); replace hk := hk'; clear hk') | (go_at_call 101; refine (oscillatorErr_any st dm _).mono ?_; rintro e w1 ⟨rfl, hs⟩; replace hk := step_of hk hs) | (go_at_call 140; refine (isPeak_any _ _).mono ?_; rintro e w1 ⟨rfl, rfl⟩) | (go_at_call 90; refine (nUnless_any _ _ _).mono ?_; rintro e w1 ⟨rfl, rfl⟩))
    refine (nFirst_any _ 3 3 _ _ (SI.three _ _ _ _ _ (by simp))).mono ?_
    rintro e w1 ⟨rfl, rfl⟩
    go_wp2_with (first | ((with_reducible refine Calmly.is_fl ?_); refine Calmly.mix_fl rfl ?_ (fun _ _ => ?_); (first | exact .move _ | exact .load _ _ | exact .fieldAddr _ _ _ (by kernel_rfl) | exact .assign _ | exact .binOp _ _ _ _ _ rfl | exact .indexAddr _ _ _ | exact .len _ _ (by kernel_rfl) | exact .field _ _ _ | exact .extract _ _ | exact .pick _ _ _ | exact .build _ _ | exact .slice _ _ _ _ _ | exact .unOp _ _ _ rfl | exact .index _ _ _ | exact .max _ _ _ rfl rfl | exact .min _ _ _ rfl rfl)) | ((with_reducible refine Calmly.is_gl ?_); refine Calmly.mix_gl rfl rfl rfl ?_; first | ((first | with_reducible refine Calmly.gl_tt ?_ (fun _ _ => ?_) | with_reducible refine Calmly.gl_ff ?_ (fun _ _ => ?_)); (first | exact .move _ | exact .load _ _ | exact .fieldAddr _ _ _ (by kernel_rfl) | exact .assign _ | exact .binOp _ _ _ _ _ rfl | exact .indexAddr _ _ _ | exact .len _ _ (by kernel_rfl) | exact .field _ _ _ | exact .extract _ _ | exact .pick _ _ _ | exact .build _ _ | exact .slice _ _ _ _ _ | exact .unOp _ _ _ rfl | exact .index _ _ _ | exact .max _ _ _ rfl rfl | exact .min _ _ _ rfl rfl)) | with_reducible refine Calmly.gl_tf (fun _ _ => ?_) | with_reducible refine Calmly.gl_ft (fun _ _ => ?_)) | ((with_reducible refine Calmly.is_eff ?_); refine Calmly.mix_eff rfl (fun _ _ => ?_)) | ((with_reducible refine Calmly.is_gf ?_); refine Calmly.mix_gf rfl rfl rfl ?_; first | with_reducible refine Calmly.gf_tt (fun _ _ => ?_) | with_reducible refine Calmly.gf_ff (fun _ _ => ?_) | with_reducible refine Calmly.gf_tf (kept_of hk) (fun _ _ => ?_) | with_reducible refine Calmly.gf_ft (kept_of hk) (fun _ _ => ?_)) | ((with_reducible refine Calmly.is_tail ?_); first | refine Calmly.mix_tail_nil ?_ | refine Calmly.mix_tail rfl (fun _ _ => ?_)) | ((with_reducible refine Calmly.is_kept ?_); refine ⟨kept_of hk, ?_⟩) | (with_reducible refine Calmly.mix_alt ?_ ?_))
    go_ret
    refine ⟨ret_int ?_, BW.trans (hk.mono BW.size)⟩
    rw [← HE.out, bndE]
    simp [hlo]

set_option maxRecDepth 100000 in
set_option maxHeartbeats 1000000 in
theorem eachOsc_any (a : Option Addr) (n c : Nat) (l : List (Int × Int)) (w : World) (h1 : SR w a n c l) :
    Calls Try.prog 103 #[.slice a n c, .func (.func 101) #[] #[]] w fun e w' => e = .returned (.int .i64 (firstE (l.map oscE))) ∧ Below w.heap.size w w' := by
  obtain ⟨l1, l2⟩ : n ≤ l.length ∧ l.length ≤ n := by have := h1.len; omega
  have m1 := h1.max
  have c1 := h1.cap
  obtain ⟨R, hR⟩ : ∃ R, firstE (l.map oscE) = R := ⟨_, rfl⟩
  rw [hR]
  have HR := Lib.hid hR
  clear hR
  go_enter Try.func103, Try.ntmps103
  go_wp2_with fail
  go_loopw [10] (fun i wr => ∃ k : Nat, k ≤ n ∧ i = .int .i64 k ∧ firstE ((l.drop k).map oscE) = R ∧ Below w.heap.size w wr) (fun i _ => n - (intOf i).toNat)
  case atStart => exact ⟨0, by omega, rfl, HR.out, Below.refl _ _⟩
  case round =>
    obtain ⟨k, hk, rfl, ht, hbr⟩ := hrel
    have HT := Lib.hid ht
    clear ht
    have hrs := hbr.size
    by_cases hlt : k < n
    · obtain ⟨cb, co, rfl, hcc⟩ := h1.at_ (by omega)
      obtain ⟨y0, y1⟩ := hcc k hlt
      replace y0 := cell_keep y0 hbr
      replace y1 := cell_keep y1 hbr
      clear hcc
      have hd := eachE_drop oscE l (0, 0) k (by omega)
      rw [HT.out] at hd
      obtain ⟨rr, hrr⟩ : ∃ rr, l[k]?.getD (0, 0) = rr := ⟨_, rfl⟩
      obtain ⟨st, dm⟩ := rr
      rw [hrr] at y0 y1 hd
      clear hrr
      dsimp only at y0 y1
      obtain ⟨E, hE⟩ : ∃ E, oscE (st, dm) = E := ⟨_, rfl⟩
      rw [hE] at hd
      have HD := Lib.hid hd
      have HE := Lib.hid hE
      clear hd hE
      have hi1 : (k : Int) < (n : Int) := by omega
      have hi0 : (0 : Int) ≤ (k : Int) := by omega
      go_wp2_with fail
      refine (oscillatorErr_any st dm _).mono ?_
      rintro e w1 ⟨rfl, hs⟩
      rw [HE.out]
      have hbn := hbr.trans (((Below.refl wr.heap.size wr).alloc (Nat.le_refl _) (.cells #[.int .i64 st, .int .i64 dm] 49)).trans (hs.mono (by simp)) |>.mono hrs)
      by_cases hz : E = 0
      · subst hz
        have hE0 : ((0 : Int) != 0) = false := rfl
        go_wp2_with fail
        go_roundw
        case rel => exact ⟨k + 1, by omega, by go_num, by rw [HD.out]; simp, hbn⟩
        case measure => simp [intOf]; omega
      · have b1 : (E != 0) = true := by simpa using hz
        have hRE : R = E := by rw [HD.out, if_neg hz]
        clear hz
        go_wp2_with fail
        go_ret
        exact ⟨ret_int hRE.symm, hbn⟩
    · have hle : (n : Int) ≤ (k : Int) := by omega
      have hR0 : R = 0 := by rw [← HT.out, List.drop_eq_nil_of_le (by omega)]; rfl
      go_wp2_with fail
      go_ret
      exact ⟨ret_int hR0.symm, hbr⟩

set_option maxRecDepth 100000 in
set_option maxHeartbeats 1000000 in
theorem eachBnd_any (a : Option Addr) (n c : Nat) (l : List Four) (w : World) (h1 : SB w a n c l) (pb : Nat) (h2 : w.heap[pb]? = some (.cells #[.func (.func 140) #[] #[]] 124)) :
    Calls Try.prog 141 #[.slice a n c, .func (.func 142) #[] #[.pointer (some ⟨pb, 0, none⟩)]] w fun e w' => e = .returned (.int .i64 (firstE (l.map bndE))) ∧ Below w.heap.size w w' := by
  obtain ⟨l1, l2⟩ : n ≤ l.length ∧ l.length ≤ n := by have := h1.len; omega
  have m1 := h1.max
  have c1 := h1.cap
  obtain ⟨R, hR⟩ : ∃ R, firstE (l.map bndE) = R := ⟨_, rfl⟩
  rw [hR]
  have HR := Lib.hid hR
  clear hR
  go_enter Try.func141, Try.ntmps141
  go_wp2_with fail
  go_loopw [10] (fun i wr => ∃ k : Nat, k ≤ n ∧ i = .int .i64 k ∧ firstE ((l.drop k).map bndE) = R ∧ Below w.heap.size w wr) (fun i _ => n - (intOf i).toNat)
  case atStart => exact ⟨0, by omega, rfl, HR.out, Below.refl _ _⟩
  case round =>
    obtain ⟨k, hk, rfl, ht, hbr⟩ := hrel
    have HT := Lib.hid ht
    clear ht
    have hrs := hbr.size
    by_cases hlt : k < n
    · obtain ⟨cb, co, rfl, hcc⟩ := h1.at_ (by omega)
      obtain ⟨y0, y1, y2, y3⟩ := hcc k hlt
      replace y0 := cell_keep y0 hbr
      replace y1 := cell_keep y1 hbr
      replace y2 := cell_keep y2 hbr
      replace y3 := cell_keep y3 hbr
      clear hcc
      have hd := eachE_drop bndE l four0 k (by omega)
      rw [HT.out] at hd
      obtain ⟨rr, hrr⟩ : ∃ rr, l[k]?.getD four0 = rr := ⟨_, rfl⟩
      obtain ⟨⟨st, dm⟩, ⟨lo, hi⟩⟩ := rr
      rw [hrr] at y0 y1 y2 y3 hd
      clear hrr
      dsimp only at y0 y1 y2 y3
      obtain ⟨E, hE⟩ : ∃ E, bndE ((st, dm), (lo, hi)) = E := ⟨_, rfl⟩
      rw [hE] at hd
      have HD := Lib.hid hd
      have HE := Lib.hid hE
      clear hd hE
      have hi1 : (k : Int) < (n : Int) := by omega
      have hi0 : (0 : Int) ≤ (k : Int) := by omega
      go_wp2_with fail
      refine (bndErr_any st dm lo hi pb _ (blk_keep (blk_keep h2 hbr) ((Below.refl _ _).alloc (Nat.le_refl _) _))).mono ?_
      rintro e w1 ⟨rfl, hs⟩
      rw [HE.out]
      have hbn := hbr.trans (((Below.refl wr.heap.size wr).alloc (Nat.le_refl _) (.cells #[.int .i64 st, .int .i64 dm, .int .i64 lo, .int .i64 hi] 51)).trans (hs.mono (by simp)) |>.mono hrs)
      by_cases hz : E = 0
      · subst hz
        have hE0 : ((0 : Int) != 0) = false := rfl
        go_wp2_with fail
        go_roundw
        case rel => exact ⟨k + 1, by omega, by go_num, by rw [HD.out]; simp, hbn⟩
        case measure => simp [intOf]; omega
      · have b1 : (E != 0) = true := by simpa using hz
        have hRE : R = E := by rw [HD.out, if_neg hz]
        clear hz
        go_wp2_with fail
        go_ret
        exact ⟨ret_int hRE.symm, hbn⟩
    · have hle : (n : Int) ≤ (k : Int) := by omega
      have hR0 : R = 0 := by rw [← HT.out, List.drop_eq_nil_of_le (by omega)]; rfl
      go_wp2_with fail
      go_ret
      exact ⟨ret_int hR0.symm, hbr⟩

set_option maxRecDepth 100000 in
set_option maxHeartbeats 1000000 in
theorem eachTim_any (a : Option Addr) (n c : Nat) (l : List Int) (w : World) (h1 : SI w a n c l) :
    Calls Try.prog 155 #[.slice a n c, .func (.func 156) #[] #[]] w fun e w' => e = .returned (.int .i64 (firstE (l.map timE))) ∧ Below w.heap.size w w' := by
  obtain ⟨l1, l2⟩ : n ≤ l.length ∧ l.length ≤ n := by have := h1.len; omega
  have m1 := h1.max
  have c1 := h1.cap
  obtain ⟨R, hR⟩ : ∃ R, firstE (l.map timE) = R := ⟨_, rfl⟩
  rw [hR]
  have HR := Lib.hid hR
  clear hR
  go_enter Try.func155, Try.ntmps155
  go_wp2_with fail
  go_loopw [10] (fun i wr => ∃ k : Nat, k ≤ n ∧ i = .int .i64 k ∧ firstE ((l.drop k).map timE) = R ∧ Below w.heap.size w wr) (fun i _ => n - (intOf i).toNat)
  case atStart => exact ⟨0, by omega, rfl, HR.out, Below.refl _ _⟩
  case round =>
    obtain ⟨k, hk, rfl, ht, hbr⟩ := hrel
    have HT := Lib.hid ht
    clear ht
    have hrs := hbr.size
    by_cases hlt : k < n
    · obtain ⟨cb, co, rfl, hcc⟩ := h1.at_ (by omega)
      have y0 := cell_keep (hcc k hlt) hbr
      clear hcc
      have hd := eachE_drop timE l 0 k (by omega)
      rw [HT.out] at hd
      obtain ⟨x, hxx⟩ : ∃ x, l[k]?.getD 0 = x := ⟨_, rfl⟩
      rw [hxx] at y0 hd
      clear hxx
      obtain ⟨E, hE⟩ : ∃ E, timE x = E := ⟨_, rfl⟩
      rw [hE] at hd
      have HD := Lib.hid hd
      have HE := Lib.hid hE
      clear hd hE
      have hi1 : (k : Int) < (n : Int) := by omega
      have hi0 : (0 : Int) ≤ (k : Int) := by omega
      go_wp2_with fail
      refine (timErr_any x _).mono ?_
      rintro e w1 ⟨rfl, hs⟩
      rw [HE.out]
      have hbn := hbr.trans (hs.mono hrs)
      by_cases hz : E = 0
      · subst hz
        have hE0 : ((0 : Int) != 0) = false := rfl
        go_wp2_with fail
        go_roundw
        case rel => exact ⟨k + 1, by omega, by go_num, by rw [HD.out]; simp, hbn⟩
        case measure => simp [intOf]; omega
      · have b1 : (E != 0) = true := by simpa using hz
        have hRE : R = E := by rw [HD.out, if_neg hz]
        clear hz
        go_wp2_with fail
        go_ret
        exact ⟨ret_int hRE.symm, hbn⟩
    · have hle : (n : Int) ≤ (k : Int) := by omega
      have hR0 : R = 0 := by rw [← HT.out, List.drop_eq_nil_of_le (by omega)]; rfl
      go_wp2_with fail
      go_ret
      exact ⟨ret_int hR0.symm, hbr⟩

set_option maxHeartbeats 400000 in
theorem noSampleW_any (x : Int) (w : World) : Calls Try.prog 170 #[.int .i64 x] w fun e w' => e = .returned (.bool (!smp x)) ∧ w = w' := by
  go_enter Try.func170, Try.ntmps170
  go_wp2_with fail
  refine (isSample_any x _).mono ?_
  rintro e w1 ⟨rfl, rfl⟩
  go_wp2_with fail
  go_ret
  exact ⟨rfl, rfl⟩

set_option maxRecDepth 100000 in
set_option maxHeartbeats 1000000 in
theorem indexBadW_any (a : Option Addr) (n c : Nat) (xs : List Int) (w : World) (h1 : SI w a n c xs) :
    Calls Try.prog 95 #[.slice a n c, .func (.func 170) #[] #[]] w fun e w' => e = .returned (.int .i64 (badI xs)) ∧ w = w' := by
  obtain ⟨l1, l2⟩ : n ≤ xs.length ∧ xs.length ≤ n := by have := h1.len; omega
  have m1 := h1.max
  have c1 := h1.cap
  obtain ⟨R, hR⟩ : ∃ R, badI xs = R := ⟨_, rfl⟩
  rw [hR]
  have HR := Lib.hid hR
  clear hR
  go_enter Try.func95, Try.ntmps95
  go_wp2_with fail
  go_loop [8] (fun i => ∃ k : Nat, k ≤ n ∧ i = .int .i64 k ∧ badS xs 0 = badS (xs.drop k) k) (fun i => n - (intOf i).toNat)
  case atStart => exact ⟨0, by omega, rfl, rfl⟩
  case round =>
    obtain ⟨k, hk, rfl, ht⟩ := hrel
    have HT := Lib.hid ht
    clear ht
    by_cases hlt : k < n
    · obtain ⟨b1, o1, rfl, hc1⟩ := h1.at_ (by omega)
      have e1 := hc1 k hlt
      clear hc1
      have hi : (k : Int) < (n : Int) := by omega
      have hi0 : (0 : Int) ≤ (k : Int) := by omega
      have hd := badS_drop xs k (by omega)
      obtain ⟨x, hxx⟩ : ∃ x, xs[k]?.getD 0 = x := ⟨_, rfl⟩
      rw [hxx] at e1 hd
      have HD := Lib.hid hd
      clear hxx hd
      go_wp2_with fail
      refine (noSampleW_any _ _).mono ?_
      rintro e w1 ⟨rfl, rfl⟩
      cases ho : smp x
      · go_wp2_with fail
        go_ret
        refine ⟨ret_int ?_, rfl⟩
        rw [← HR.out, badI, HT.out, HD.out, ho]
        rfl
      · go_wp2_with fail
        go_round
        case rel => exact ⟨k + 1, by omega, by go_num, by rw [HT.out, HD.out, ho]; rfl⟩
        case measure => simp [intOf]; omega
    · have hle : (n : Int) ≤ (k : Int) := by omega
      go_wp2_with fail
      go_ret
      refine ⟨ret_int ?_, rfl⟩
      rw [← HR.out, badI, HT.out, List.drop_eq_nil_of_le (by omega)]
      rfl

set_option maxHeartbeats 400000 in
theorem containsBadW_any (a : Option Addr) (n c : Nat) (xs : List Int) (w : World) (h1 : SI w a n c xs) :
    Calls Try.prog 122 #[.slice a n c, .func (.func 170) #[] #[]] w fun e w' => e = .returned (.bool (badS xs 0).isSome) ∧ w = w' := by
  have hI : decide (badI xs ≥ 0) = (badS xs 0).isSome := by
    unfold badI
    cases badS xs 0 with
    | none => rfl
    | some i => simp
  have HI := Lib.hid hI
  clear hI
  go_enter Try.func122, Try.ntmps122
  go_wp2_with fail
  refine (indexBadW_any a n c xs _ h1).mono ?_
  rintro e w1 ⟨rfl, rfl⟩
  go_wp2_with fail
  go_ret
  exact ⟨ret_bool HI.out, rfl⟩

set_option maxRecDepth 100000 in
set_option maxHeartbeats 1000000 in
theorem wavErr_any (a : Option Addr) (n c : Nat) (xs : List Int) (step : Int) (ra : Option Addr) (rn rc pb : Nat) (w : World) (h1 : SI w a n c xs) (hn : rn ≤ 24) (hn2 : 0 < rn) (h2 : w.heap[pb]? = some (.cells #[.int .i64 step, .slice ra rn rc] 24)) :
    Calls Try.prog 169 #[.slice a n c, .pointer (some ⟨pb, 0, none⟩)] w fun e w' => e = .returned (.int .i64 (wavE rn xs)) ∧ Below w.heap.size w w' := by
  obtain ⟨l1, l2⟩ : n ≤ xs.length ∧ xs.length ≤ n := by have := h1.len; omega
  obtain ⟨E, hE⟩ : ∃ E, wavE rn xs = E := ⟨_, rfl⟩
  rw [hE]
  have HE := Lib.hid hE
  clear hE
  have f0 := cell_block h2 0
  have f1 := cell_block h2 1
  by_cases hl : n = rn
  case neg =>
    have b1 : ((n : Int) != (rn : Int)) = true := by simp; omega
    have hE1 : E = 10 := by rw [← HE.out, wavE, if_neg (by omega)]
    clear hl
    go_enter Try.func169, Try.ntmps169
    go_wp2_with fail
    go_ret
    exact ⟨ret_int hE1.symm, Below.refl _ _⟩
  subst hl
  have b1 : ((n : Int) != (n : Int)) = false := by simp
  cases hbs : badS xs 0 with
  | some i =>
    have hE1 : E = 2 := by rw [← HE.out, wavE, if_pos (by omega), hbs]; rfl
    have HB : Hid ((badS xs 0).isSome = true) := Lib.hid (by rw [hbs]; rfl)
    clear hbs
    go_enter Try.func169, Try.ntmps169
    go_wp2_with fail
    refine (containsBadW_any a n c xs _ h1).mono ?_
    rintro e w1 ⟨rfl, rfl⟩
    rw [HB.out]
    go_wp2_with fail
    go_ret
    exact ⟨ret_int hE1.symm, Below.refl _ _⟩
  | none =>
    have hq := badS_none hbs
    have HQ := Lib.hid hq
    obtain ⟨V, hV⟩ : ∃ V, sumT xs n = V := ⟨_, rfl⟩
    obtain ⟨D, hD⟩ : ∃ D, sumT (sumsF xs) n = D := ⟨_, rfl⟩
    have hE1 : E = unlessE (decide (V = 0 ∧ D = 0)) 21 := by rw [← HE.out, wavE, if_pos (by omega), if_pos hbs, hV, hD]
    have HE1 := Lib.hid hE1
    have HV := Lib.hid hV
    have HD := Lib.hid hD
    have HB : Hid ((badS xs 0).isSome = false) := Lib.hid (by rw [hbs]; rfl)
    clear hbs hq hE1 hV hD HE
    go_enter Try.func169, Try.ntmps169
    go_wp2_with fail
    refine (containsBadW_any a n c xs _ h1).mono ?_
    rintro e w1 ⟨rfl, rfl⟩
    rw [HB.out]
    go_wp2_with fail
    refine (end_any a n c xs _ h1 (by omega) (by omega) HQ.out V D HV.out HD.out).mono ?_
    rintro e w1 ⟨rfl, hs⟩
    go_wp2_with fail
    all_goals
      refine (nUnless_any _ _ _).mono ?_
      rintro e w2 ⟨rfl, rfl⟩
      go_wp2_with fail
      go_ret
      refine ⟨ret_int ?_, hs⟩
      rw [HE1.out]
      congr 1
      simp
      try omega

set_option maxRecDepth 100000 in
set_option maxHeartbeats 1000000 in
theorem eachWav_any (a : Option Addr) (n c : Nat) (l : List (List Int)) (w : World) (h1 : SW w a n c l) (step : Int) (ra : Option Addr) (rn rc pb : Nat) (hn : rn ≤ 24) (hn2 : 0 < rn) (h2 : w.heap[pb]? = some (.cells #[.int .i64 step, .slice ra rn rc] 24)) :
    Calls Try.prog 168 #[.slice a n c, .func (.func 169) #[] #[.pointer (some ⟨pb, 0, none⟩)]] w fun e w' => e = .returned (.int .i64 (firstE (l.map (wavE rn)))) ∧ Below w.heap.size w w' := by
  obtain ⟨l1, l2⟩ : n ≤ l.length ∧ l.length ≤ n := by have := h1.len; omega
  have m1 := h1.max
  have c1 := h1.cap
  obtain ⟨R, hR⟩ : ∃ R, firstE (l.map (wavE rn)) = R := ⟨_, rfl⟩
  rw [hR]
  have HR := Lib.hid hR
  clear hR
  go_enter Try.func168, Try.ntmps168
  go_wp2_with fail
  go_loopw [10] (fun i wr => ∃ k : Nat, k ≤ n ∧ i = .int .i64 k ∧ firstE ((l.drop k).map (wavE rn)) = R ∧ Below w.heap.size w wr) (fun i _ => n - (intOf i).toNat)
  case atStart => exact ⟨0, by omega, rfl, HR.out, Below.refl _ _⟩
  case round =>
    obtain ⟨k, hk, rfl, ht, hbr⟩ := hrel
    have HT := Lib.hid ht
    clear ht
    have hrs := hbr.size
    by_cases hlt : k < n
    · obtain ⟨cb, co, rfl, hcc⟩ := h1.at_ (by omega)
      obtain ⟨ya, yn, yc, y0, y1⟩ := hcc k hlt
      replace y0 := cell_keep y0 hbr
      replace y1 := y1.keep hbr
      clear hcc
      have hd := eachE_drop (wavE rn) l [] k (by omega)
      rw [HT.out] at hd
      obtain ⟨x, hxx⟩ : ∃ x, l[k]?.getD [] = x := ⟨_, rfl⟩
      rw [hxx] at y1 hd
      clear hxx
      obtain ⟨E, hE⟩ : ∃ E, (wavE rn) x = E := ⟨_, rfl⟩
      rw [hE] at hd
      have HD := Lib.hid hd
      have HE := Lib.hid hE
      clear hd hE
      have hi1 : (k : Int) < (n : Int) := by omega
      have hi0 : (0 : Int) ≤ (k : Int) := by omega
      go_wp2_with fail
      refine (wavErr_any ya yn yc x step ra rn rc pb _ y1 hn hn2 (blk_keep h2 hbr)).mono ?_
      rintro e w1 ⟨rfl, hs⟩
      rw [HE.out]
      have hbn := hbr.trans (hs.mono hrs)
      by_cases hz : E = 0
      · subst hz
        have hE0 : ((0 : Int) != 0) = false := rfl
        go_wp2_with fail
        go_roundw
        case rel => exact ⟨k + 1, by omega, by go_num, by rw [HD.out]; simp, hbn⟩
        case measure => simp [intOf]; omega
      · have b1 : (E != 0) = true := by simpa using hz
        have hRE : R = E := by rw [HD.out, if_neg hz]
        clear hz
        go_wp2_with fail
        go_ret
        exact ⟨ret_int hRE.symm, hbn⟩
    · have hle : (n : Int) ≤ (k : Int) := by omega
      have hR0 : R = 0 := by rw [← HT.out, List.drop_eq_nil_of_le (by omega)]; rfl
      go_wp2_with fail
      go_ret
      exact ⟨ret_int hR0.symm, hbr⟩

set_option maxRecDepth 100000 in
set_option maxHeartbeats 1000000 in
theorem timesErr_any (wa : Option Addr) (wn wc : Nat) (a : Option Addr) (n c : Nat) (xs : List Int) (w : World) (h1 : SI w a n c xs) (_hw1 : wn ≤ wc) (_hw2 : wc ≤ 9223372036854775807) (E : Int) (hE : timesE wn xs = E) :
    Calls Try.prog 116 #[.slice wa wn wc, .slice a n c] w fun e w' => e = .returned (.int .i64 E) ∧ Below w.heap.size w w' := by
  obtain ⟨l1, l2⟩ : n ≤ xs.length ∧ xs.length ≤ n := by have := h1.len; omega
  have m1 := h1.max
  have c1 := h1.cap
  have e1 : decide (xs.length = wn) = ((n : Int) == (wn : Int)) := by
    rw [Bool.eq_iff_iff]
    simp
    omega
  unfold timesE at hE
  rw [e1] at hE
  have HE := Lib.hid hE
  clear hE e1
  go_enter Try.func116, Try.ntmps116
  go_wp2_with fail
  refine (nUnless_any _ _ _).mono ?_
  rintro e w1 ⟨rfl, rfl⟩
  go_wp2_with fail
  refine (eachTim_any a n c xs _ h1).mono ?_
  rintro e w1 ⟨rfl, hs⟩
  go_wp2_with fail
  refine (nFirst_any _ 2 2 _ _ (SI.two _ _ _ _ rfl)).mono ?_
  rintro e w2 ⟨rfl, rfl⟩
  go_wp2_with fail
  go_ret
  exact ⟨ret_int HE.out, hs.alloc hs.size _⟩

set_option maxRecDepth 100000 in
set_option maxHeartbeats 1000000 in
theorem bandErr_any (a : Option Addr) (n c : Nat) (l : List Four) (w : World) (h1 : SB w a n c l) (E : Int) (hE : bandE l = E) :
    Calls Try.prog 84 #[.slice a n c] w fun e w' => e = .returned (.int .i64 E) ∧ Below w.heap.size w w' := by
  obtain ⟨l1, l2⟩ : n ≤ l.length ∧ l.length ≤ n := by have := h1.len; omega
  have m1 := h1.max
  have c1 := h1.cap
  have e1 : decide (0 < l.length) = decide (0 < n) := by congr 1; rw [eq_iff_iff]; omega
  have e2 : decide (l.length ≤ 6) = decide ((n : Int) ≤ 6) := by congr 1; rw [eq_iff_iff]; omega
  unfold bandE at hE
  rw [e1, e2] at hE
  have HE := Lib.hid hE
  clear hE e1 e2
  have BW : Below w.heap.size w (w.alloc (.cells #[.func (.func 140) #[] #[]] 124)) := (Below.refl _ _).alloc (Nat.le_refl _) _
  have x1 := alloc_new w (.cells #[.func (.func 140) #[] #[]] 124)
  go_enter Try.func84, Try.ntmps84
  go_wp2_with fail
  refine (nUnless_any _ _ _).mono ?_
  rintro e w1 ⟨rfl, rfl⟩
  go_wp2_with fail
  refine (nUnless_any _ _ _).mono ?_
  rintro e w1 ⟨rfl, rfl⟩
  go_wp2_with fail
  refine (eachBnd_any a n c l _ (h1.keep BW) w.heap.size x1).mono ?_
  rintro e w1 ⟨rfl, hs⟩
  go_wp2_with fail
  refine (nFirst_any _ 3 3 _ _ (SI.three _ _ _ _ _ rfl)).mono ?_
  rintro e w2 ⟨rfl, rfl⟩
  go_wp2_with fail
  go_ret
  have B2 := BW.trans (hs.mono BW.size)
  exact ⟨ret_int HE.out, B2.alloc B2.size _⟩

set_option maxRecDepth 100000 in
set_option maxHeartbeats 1000000 in
theorem wavesErr_any (step : Int) (ra : Option Addr) (rn rc : Nat) (a : Option Addr) (n c : Nat) (l : List (List Int)) (w : World) (h1 : SW w a n c l) (hn : rn ≤ 24) (hn2 : 0 < rn) (E : Int) (hE : wavesE rn l = E) :
    Calls Try.prog 139 #[.agg #[.int .i64 step, .slice ra rn rc], .slice a n c] w fun e w' => e = .returned (.int .i64 E) ∧ Below w.heap.size w w' := by
  obtain ⟨l1, l2⟩ : n ≤ l.length ∧ l.length ≤ n := by have := h1.len; omega
  have m1 := h1.max
  have c1 := h1.cap
  have e2 : decide (l.length ≤ 3) = decide ((n : Int) ≤ 3) := by congr 1; rw [eq_iff_iff]; omega
  unfold wavesE at hE
  rw [e2] at hE
  have HE := Lib.hid hE
  clear hE e2
  have BW : Below w.heap.size w (w.alloc (.cells #[.int .i64 step, .slice ra rn rc] 24)) := (Below.refl _ _).alloc (Nat.le_refl _) _
  have x1 := alloc_new w (.cells #[.int .i64 step, .slice ra rn rc] 24)
  go_enter Try.func139, Try.ntmps139
  go_wp2_with fail
  refine (nUnless_any _ _ _).mono ?_
  rintro e w1 ⟨rfl, rfl⟩
  go_wp2_with fail
  refine (eachWav_any a n c l _ (h1.keep BW) step ra rn rc w.heap.size hn hn2 x1).mono ?_
  rintro e w1 ⟨rfl, hs⟩
  go_wp2_with fail
  refine (nFirst_any _ 2 2 _ _ (SI.two _ _ _ _ rfl)).mono ?_
  rintro e w2 ⟨rfl, rfl⟩
  go_wp2_with fail
  go_ret
  have B2 := BW.trans (hs.mono BW.size)
  exact ⟨ret_int HE.out, B2.alloc B2.size _⟩

/-- The error of a record, then that of waves. -/
def openE (step : Int) (xs : List Int) (ws : List (List Int)) : Int := if (recF step xs).2 = 0 then wavesE xs.length ws else (recF step xs).2
set_option maxRecDepth 100000 in
set_option maxHeartbeats 1000000 in
theorem openWaves_any (step : Int) (ra : Option Addr) (rn rc : Nat) (xs : List Int) (a : Option Addr) (n c : Nat) (l : List (List Int)) (w : World) (h0 : SI w ra rn rc xs) (h1 : SW w a n c l) (E : Int) (hE : openE step xs l = E) :
    Calls Try.prog 83 #[.agg #[.int .i64 step, .slice ra rn rc], .slice a n c] w fun e w' => e = .returned (.int .i64 E) ∧ Below w.heap.size w w' := by
  obtain ⟨l1, l2⟩ : rn ≤ xs.length ∧ xs.length ≤ rn := by have := h0.len; omega
  have m1 := h1.max
  have c1 := h1.cap
  obtain ⟨F, hF⟩ : ∃ F, (recF step xs).2 = F := ⟨_, rfl⟩
  unfold openE at hE
  rw [hF] at hE
  have HE := Lib.hid hE
  have HF := Lib.hid hF
  clear hE hF
  have BW : Below w.heap.size w (w.alloc (.cells #[.int .i64 step, .slice ra rn rc] 24)) := (Below.refl _ _).alloc (Nat.le_refl _) _
  go_enter Try.func83, Try.ntmps83
  go_wp2_with fail
  refine (recordErr_any step ra rn rc xs _ (h0.keep BW) F HF.out).mono ?_
  rintro e w1 ⟨rfl, hs⟩
  have x1 := box1 (w := w) (o := .cells #[.int .i64 step, .slice ra rn rc] 24) hs
  replace BW := BW.trans (hs.mono BW.size)
  have f0 := cell_block x1 0
  have f1 := cell_block x1 1
  clear hs
  by_cases hz : F = 0
  case neg =>
    have b1 : (F != 0) = true := by simpa using hz
    have hE1 : E = F := by rw [← HE.out, if_neg hz]
    clear hz
    go_wp2_with fail
    go_ret
    exact ⟨ret_int hE1.symm, BW⟩
  subst hz
  obtain ⟨q1, q2, q3, q4, q5⟩ := recF_ok HF.out
  have hq : rn ≤ 24 ∧ 0 < rn := by omega
  obtain ⟨hq1, hq2⟩ := hq
  clear q1 q2 q3 q4 q5
  go_wp2_with fail
  refine (wavesErr_any step ra rn rc a n c l _ (h1.keep BW) hq1 hq2 E (by rw [← HE.out]; simp; congr 1; omega)).mono ?_
  rintro e w2 ⟨rfl, hs⟩
  go_wp2_with fail
  go_ret
  exact ⟨rfl, BW.trans (hs.mono BW.size)⟩
end Go.Proofs.Ytiibdndchkbefaa
