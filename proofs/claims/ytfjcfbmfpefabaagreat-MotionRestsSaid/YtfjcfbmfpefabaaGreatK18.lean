/- Contracts of chapter 2: the match of a record for waves and a band. The examples of chapter 2 hold. -/
import Derived.Test.YtfjcfbmfpefabaaGreatK17
namespace Go.Proofs.YtfjcfbmfpefabaaGreat
open Go.RowKit Go.Shelf
attribute [local go_sem] Oper.semAt_some store_fn
open Calmly (Kept)

set_option maxHeartbeats 400000 in
theorem counts_any (m : Nat) (w : World) : Calls Tryz.prog 54 #[.int .i64 (m : Int)] w fun e w' =>
    e = .returned (.func (.func 81) #[] #[.pointer (some ⟨w.heap.size, 0, none⟩)]) ∧ w' = w.alloc (.cells #[.int .i64 (m : Int)] 3) := by
  go_enter Tryz.func54, Tryz.ntmps54
  go_wp2_with fail
  go_ret
  exact ⟨rfl, rfl⟩

set_option maxRecDepth 100000 in
set_option maxHeartbeats 1000000 in
theorem counts_onon (w : World) (m bw : Nat) (L : List Nat) (hw : w.heap[bw]? = some (.cells #[.int .i64 (m : Int)] 3)) (h1 : bw ∉ L) (hL : ∀ b, b ∈ L → b < w.heap.size) (hm : m ≤ 1000) (ky : Nat) :
    OnOnP Tryz.prog 81 #[.pointer (some ⟨bw, 0, none⟩)] encT (Keeps L) (PxT L m) (fun xs => xs.map (·.2) = allC m) ky w := by
  intro l J W hW hJ hY hJ0
  have hs := hW.size
  have HL := Lib.hid hL
  have HY := Lib.hid hY
  have HJ := Lib.hid hJ
  clear hL hY hJ
  have hB2 : Below W.heap.size W ((W.alloc (.cells #[.func (.yield l) #[] #[]] 128)).alloc (.cells #[.func (.func 82) #[] #[.pointer (some ⟨bw, 0, none⟩), .pointer (some ⟨W.heap.size, 0, none⟩), .pointer (some ⟨W.heap.size + 1, 0, none⟩)]] 128)) := ((Below.refl _ _).alloc (Nat.le_refl _) _).alloc (by simp) _
  go_enter Tryz.func81, Tryz.ntmps81
  go_wp2_with fail
  refine (grow_call l L m bw W.heap.size (W.heap.size + 1) (W.heap.size + 2) W.heap.size ky J h1 (fun h => by have := HL.out _ h; omega) (fun h => by have := HL.out _ h; omega) (fun b h => by have := HL.out _ h; omega) hm HY.out HJ.out m [] [] _ none 0 0 (by simp) (fun j => by simp) (OwI.nil _ _) (by simp) ⟨?_, ?_, ?_⟩ (HJ.out _ W _ none hJ0 (grown_of_below' hB2) (fun r e => by cases e))).mono ?_
  · exact blk_keep (blk_keep hw (hW.mono (Nat.le_refl _))) hB2
  · exact box1 (Below.alloc (Below.refl _ _) (Nat.le_refl _) _)
  · have := alloc_new (W.alloc (.cells #[.func (.yield l) #[] #[]] 128)) (.cells #[.func (.func 82) #[] #[.pointer (some ⟨bw, 0, none⟩), .pointer (some ⟨W.heap.size, 0, none⟩), .pointer (some ⟨W.heap.size + 1, 0, none⟩)]] 128)
    simpa using this
  · rintro e w1 ⟨rfl, ⟨xs, hxs, hJ1⟩, hk⟩
    go_wp2_with fail
    go_end0
    exact ⟨⟨_, rfl⟩, xs, by rw [hxs, genC_nil], by simpa using hJ1⟩

/-- The best of the times that came. -/
def stM (good : List Int → Bool) (pre : List Tm) : List Int × Bool := (pre.map (·.2)).foldl (mtStep good) ([], false)
theorem stM_snoc (good : List Int → Bool) (pre : List Tm) (x : Tm) : stM good (pre ++ [x]) = mtStep good (stM good pre) x.2 := by simp [stM]
theorem stM_all (good : List Int → Bool) (pre : List Tm) (k : Nat) (h : pre.map (·.2) = allC k) : stM good pre = mtF good k := by rw [stM, h]; rfl
/-- What lies between two rounds: the best times so far. -/
structure MatchI (w0 : World) (bb bf : Nat) (st : List Int × Bool) (W : World) : Prop where
  bel : Below w0.heap.size w0 W
  best : ∃ a n c, W.heap[bb]? = some (.cells #[.slice a n c] 22) ∧ SI W a n c st.1 ∧ ∀ b o, a = some ⟨b, o, none⟩ → b ∉ [bb, bf]
  found : W.heap[bf]? = some (.cells #[.bool st.2] 4)
  bd : st.1.length ≤ 1000 ∧ ∀ j : Nat, -2 ≤ st.1[j]?.getD 0 ∧ st.1[j]?.getD 0 ≤ 2
theorem MatchI.keep {w0 : World} {bb bf : Nat} {st : List Int × Bool} {W W' : World} (h : MatchI w0 bb bf st W) (hb : Below W.heap.size W W') : MatchI w0 bb bf st W' := by
  obtain ⟨h1, ⟨a, n, c, h2, h3, h4⟩, h5, h6⟩ := h
  exact ⟨h1.trans (hb.mono h1.size), ⟨a, n, c, blk_keep h2 hb, h3.keep hb, h4⟩, blk_keep h5 hb, h6⟩
theorem si_set {w : World} {a : Option Addr} {n c r o : Nat} {xs : List Int} {v : Value} (h : SI w a n c xs) (hr : ∀ b o', a = some ⟨b, o', none⟩ → b ≠ r) : SI (w.setCell ⟨r, o, none⟩ v) a n c xs := by
  obtain ⟨h1, h2, h3, h4⟩ := h
  refine ⟨h1, h2, h3, ?_⟩
  rcases h4 with h4 | ⟨b, off, ha, hc⟩
  · exact .inl h4
  · refine .inr ⟨b, off, ha, fun i hi => ?_⟩
    rw [cell_set_ne (hr b off ha)]
    exact hc i hi
theorem MatchI.set {w0 : World} {bb bf : Nat} {st : List Int × Bool} {W : World} {a : Option Addr} {n c : Nat} {t : List Int} (h : MatchI w0 bb bf st W) (hs : SI W a n c t) (hn : ∀ b o, a = some ⟨b, o, none⟩ → b ∉ [bb, bf]) (hbf : bf = bb + 1) (hb0 : w0.heap.size ≤ bb) (hl : t.length ≤ 1000) (ht : ∀ j : Nat, -2 ≤ t[j]?.getD 0 ∧ t[j]?.getD 0 ≤ 2) :
    MatchI w0 bb bf (t, true) ((W.setCell ⟨bb, 0, none⟩ (.slice a n c)).setCell ⟨bf, 0, none⟩ (.bool true)) := by
  subst hbf
  obtain ⟨h1, ⟨a', n', c', h2, h3, h4⟩, h5, h6⟩ := h
  have e1 : ((W.setCell ⟨bb, 0, none⟩ (.slice a n c)).setCell ⟨bb + 1, 0, none⟩ (.bool true)).heap[bb]? = some (.cells #[.slice a n c] 22) := by
    rw [Below.heap_setCell _ _ _ _ (by show bb ≠ bb + 1; omega)]
    exact blk_setAt h2 0 _
  have e2 : ((W.setCell ⟨bb, 0, none⟩ (.slice a n c)).setCell ⟨bb + 1, 0, none⟩ (.bool true)).heap[bb + 1]? = some (.cells #[.bool true] 4) := by
    refine blk_setAt (cs := #[.bool st.2]) ?_ 0 _
    rw [Below.heap_setCell _ _ _ _ (by show bb + 1 ≠ bb; omega)]
    exact h5
  refine ⟨(h1.setCell hb0 _).setCell (by show w0.heap.size ≤ bb + 1; omega) _, ⟨a, n, c, e1, ?_, hn⟩, e2, hl, ht⟩
  exact si_set (si_set hs (fun b o e => by have := hn b o e; simp at this; omega)) (fun b o e => by have := hn b o e; simp at this; omega)
theorem ko_below {W W' : World} (h : Below W.heap.size W W') : KeepsOthers W W' := ⟨h.size, fun k _ hk _ => (h.block k (Array.getElem?_eq_some_iff.1 hk).1).trans hk⟩
theorem keeps_of_grown {W W' : World} {row : Option Nat} (hg : W.grownBy W' row) (hr : ∀ r, row = some r → ∃ o, W.heap[r]? = some o ∧ o.isCells = false) : Keeps [] W W' := ⟨hg.size, fun b o _ ho hc => by
  rw [hg.block b (Array.getElem?_eq_some_iff.1 ho).1 ?_]
  · exact ho
  · intro he
    obtain ⟨o', h1, h2⟩ := hr b he.symm
    rw [ho] at h1
    cases h1
    rw [hc] at h2
    cases h2⟩
theorem MatchI.own {β : Type} (w0 : World) (bb bf B : Nat) (f : β → List Int × Bool) (hB : w0.heap.size ≤ B) : OwnFrom B (fun s W => MatchI w0 bb bf (f s) W) := by
  rintro s W W' row ⟨h1, ⟨a, n, c, h2, h3, h4⟩, h5, h6⟩ hg hr
  have hk := keeps_of_grown hg (fun r e => (hr r e).2)
  refine ⟨h1.trans (grown_below hg h1.size (fun k e => by have := (hr k e).1; omega)), ⟨a, n, c, hk.blk (by simp) h2, hk.si h3 (fun _ _ _ => by simp), h4⟩, hk.blk (by simp) h5, h6⟩
theorem PxT.own (L : List Nat) (m : Nat) (x : Tm) (B : Nat) : OwnFrom B (fun (_ : Unit) W => PxT L m x W) := by
  rintro s W W' row ⟨h1, h2⟩ hg hr
  exact ⟨(keeps_of_grown hg (fun r e => (hr r e).2)).si h1 (fun _ _ _ => by simp), h2⟩

theorem q_false {l : List Int} {n : Nat} (h : l.isEmpty = false) (hn : n = l.length) : ((n : Int) == 0) = false := by
  have : 0 < n := by rw [hn]; cases l with | nil => cases h | cons _ _ => simp
  simp
  omega
theorem q_true {l : List Int} {n : Nat} (h : l.isEmpty = true) (hn : n = l.length) : ((n : Int) == 0) = true := by
  have : n = 0 := by rw [hn, List.isEmpty_iff.1 h]; rfl
  simp
  omega
theorem own_pure' {β : Type} (B : Nat) (p : β → Prop) : OwnFrom B (fun s (_ : World) => p s) := fun _ _ _ _ hs _ _ => hs

set_option maxRecDepth 100000 in
set_option maxHeartbeats 4000000 in
theorem MatchFor_any (step : Int) (ra : Option Addr) (rn rc : Nat) (xs : List Int) (wa : Option Addr) (wn wc : Nat) (ws : List (List Int)) (ba : Option Addr) (bn bc : Nat) (l : List Four) (w : World) (h0 : SI w ra rn rc xs) (h1 : SW w wa wn wc ws) (h2 : SB w ba bn bc l)
    (F E : Int) (X : List Int) (hF : firstE [openE step xs ws, bandE l] = F) (hno : F ≠ 0 → X = [] ∧ E = F) (hok : F = 0 → X = (mtF (goodM xs ws l) wn).1 ∧ E = unlessE (mtF (goodM xs ws l) wn).2 12) :
    Calls Tryz.prog 18 #[.agg #[.int .i64 step, .slice ra rn rc], .slice wa wn wc, .slice ba bn bc] w fun e w' => ∃ a' n' c', e = .returned (.tuple #[.slice a' n' c', .int .i64 E]) ∧ SI w' a' n' c' X ∧ Below w.heap.size w w' := by
  obtain ⟨l1, l2⟩ : rn ≤ xs.length ∧ xs.length ≤ rn := by have := h0.len; omega
  obtain ⟨k1, k2⟩ : wn ≤ ws.length ∧ ws.length ≤ wn := by have := h1.len; omega
  obtain ⟨j1, j2⟩ : bn ≤ l.length ∧ l.length ≤ bn := by have := h2.len; omega
  have m0 := h0.max
  have c0 := h0.cap
  have m1 := h1.max
  have c1 := h1.cap
  have m2 := h2.max
  have c2 := h2.cap
  have HF := Lib.hid hF
  have HNO := Lib.hid hno
  have HOK := Lib.hid hok
  clear hF hno hok
  have hB3 : Below w.heap.size w (((w.alloc (.cells #[.int .i64 step, .slice ra rn rc] 24)).alloc (.cells #[.slice wa wn wc] 54)).alloc (.cells #[.slice ba bn bc] 55)) := (((Below.refl _ _).alloc (Nat.le_refl _) _).alloc (by simp) _).alloc (by simp; omega) _
  refine (callsIn_wide (n := 5)).1 ?_
  refine callsIn_of_wp_marks Tryz.func18 rfl trivial ?_ rfl
  simp only [Tryz.ntmps18, List.size_toArray, List.length_cons, List.length_nil, Nat.reduceAdd, Nat.reduceSub, Array.replicate_succ, Array.replicate_zero, List.push_toArray, List.append_toArray, List.nil_append, List.cons_append]
  refine wpIn_wide.2 ?_
  go_wp2_with fail
  refine Calmly.wp_region_mix 7 (.fl 0 <| .fl 1 <| .fl 3 <| .eff 2 <| .eff 4 <| .eff 5 <| .eff 6 <| .tail [7]) (by kernel_rfl) (by kernel_rfl) ?_
  have BW := hB3.drew
  obtain ⟨x1, x2⟩ := box2 (w := w) (W := (w.alloc (.cells #[.int .i64 step, .slice ra rn rc] 24)).alloc (.cells #[.slice wa wn wc] 54)) (Below.alloc (Below.refl _ _) (Nat.le_refl _) (.cells #[.slice ba bn bc] 55)) rfl
  have x3 := alloc_new ((w.alloc (.cells #[.int .i64 step, .slice ra rn rc] 24)).alloc (.cells #[.slice wa wn wc] 54)) (.cells #[.slice ba bn bc] 55)
  simp only [World.size_alloc] at x3
  replace x1 := blk_keep x1 (Below.refl _ _).drew
  replace x2 := blk_keep x2 (Below.refl _ _).drew
  replace x3 := blk_keep x3 (Below.refl _ _).drew
  generalize World.drew _ = V at x1 x2 x3 BW ⊢
  have f0 := cell_block x1 0
  have f1 := cell_block x1 1
  have f2 := cell_block x2 0
  have f3 := cell_block x3 0
  have hk := Below.refl V.heap.size V
  go_wp2_with (first | ((with_reducible refine Calmly.is_fl ?_); refine Calmly.mix_fl rfl ?_ (fun _ _ => ?_); (first | exact .move _ | exact .load _ _ | exact .fieldAddr _ _ _ (by kernel_rfl) | exact .assign _ | exact .binOp _ _ _ _ _ rfl | exact .indexAddr _ _ _ | exact .len _ _ (by kernel_rfl) | exact .field _ _ _ | exact .extract _ _ | exact .pick _ _ _ | exact .build _ _ | exact .slice _ _ _ _ _ | exact .unOp _ _ _ rfl | exact .index _ _ _ | exact .max _ _ _ rfl rfl | exact .min _ _ _ rfl rfl)) | ((with_reducible refine Calmly.is_gl ?_); refine Calmly.mix_gl rfl rfl rfl ?_; first | ((first | with_reducible refine Calmly.gl_tt ?_ (fun _ _ => ?_) | with_reducible refine Calmly.gl_ff ?_ (fun _ _ => ?_)); (first | exact .move _ | exact .load _ _ | exact .fieldAddr _ _ _ (by kernel_rfl) | exact .assign _ | exact .binOp _ _ _ _ _ rfl | exact .indexAddr _ _ _ | exact .len _ _ (by kernel_rfl) | exact .field _ _ _ | exact .extract _ _ | exact .pick _ _ _ | exact .build _ _ | exact .slice _ _ _ _ _ | exact .unOp _ _ _ rfl | exact .index _ _ _ | exact .max _ _ _ rfl rfl | exact .min _ _ _ rfl rfl)) | with_reducible refine Calmly.gl_tf (fun _ _ => ?_) | with_reducible refine Calmly.gl_ft (fun _ _ => ?_)) | ((with_reducible refine Calmly.is_eff ?_); refine Calmly.mix_eff rfl (fun _ _ => ?_)) | ((with_reducible refine Calmly.is_gf ?_); refine Calmly.mix_gf rfl rfl rfl ?_; first | with_reducible refine Calmly.gf_tt (fun _ _ => ?_) | with_reducible refine Calmly.gf_ff (fun _ _ => ?_) | with_reducible refine Calmly.gf_tf (kept_of hk) (fun _ _ => ?_) | with_reducible refine Calmly.gf_ft (kept_of hk) (fun _ _ => ?_)) | ((with_reducible refine Calmly.is_kept ?_); refine ⟨kept_of hk, ?_⟩) | (with_reducible refine Calmly.mix_alt ?_ ?_) | (refine kept_alloc hk (fun hk' hblk hge => ?_); replace hk := hk'; clear hk') | (go_at_call 52; refine (openWaves_any step ra rn rc xs wa wn wc ws _ ((h0.keep BW).keep hk) ((h1.keep BW).keep hk) _ rfl).mono ?_; rintro e w1 ⟨rfl, hs⟩; replace hk := step_of hk hs) | (go_at_call 53; refine (bandErr_any ba bn bc l _ ((h2.keep BW).keep hk) _ rfl).mono ?_; rintro e w1 ⟨rfl, hs⟩; replace hk := step_of hk hs))
  refine (nFirst_any _ 2 2 _ _ (SI.two _ _ _ _ (by simp))).mono ?_
  rintro e w2 ⟨rfl, rfl⟩
  rw [HF.out]
  replace BW := BW.trans (hk.mono BW.size)
  replace x1 := blk_keep x1 hk
  replace x2 := blk_keep x2 hk
  replace x3 := blk_keep x3 hk
  clear f0 f1 f2 f3 hge hblk
  generalize World.alloc _ _ = V2 at hk x1 x2 x3 BW ⊢
  have hlt := blk_lt x3
  have f0 := cell_block x1 0
  have f1 := cell_block x1 1
  have f2 := cell_block x2 0
  have f3 := cell_block x3 0
  by_cases hz : F = 0
  case neg =>
    obtain ⟨rfl, rfl⟩ := HNO.out hz
    have b1 : (E != 0) = true := by simpa using hz
    clear hz
    go_wp2_with (first | ((with_reducible refine Calmly.is_fl ?_); refine Calmly.mix_fl rfl ?_ (fun _ _ => ?_); (first | exact .move _ | exact .load _ _ | exact .fieldAddr _ _ _ (by kernel_rfl) | exact .assign _ | exact .binOp _ _ _ _ _ rfl | exact .indexAddr _ _ _ | exact .len _ _ (by kernel_rfl) | exact .field _ _ _ | exact .extract _ _ | exact .pick _ _ _ | exact .build _ _ | exact .slice _ _ _ _ _ | exact .unOp _ _ _ rfl | exact .index _ _ _ | exact .max _ _ _ rfl rfl | exact .min _ _ _ rfl rfl)) | ((with_reducible refine Calmly.is_gl ?_); refine Calmly.mix_gl rfl rfl rfl ?_; first | ((first | with_reducible refine Calmly.gl_tt ?_ (fun _ _ => ?_) | with_reducible refine Calmly.gl_ff ?_ (fun _ _ => ?_)); (first | exact .move _ | exact .load _ _ | exact .fieldAddr _ _ _ (by kernel_rfl) | exact .assign _ | exact .binOp _ _ _ _ _ rfl | exact .indexAddr _ _ _ | exact .len _ _ (by kernel_rfl) | exact .field _ _ _ | exact .extract _ _ | exact .pick _ _ _ | exact .build _ _ | exact .slice _ _ _ _ _ | exact .unOp _ _ _ rfl | exact .index _ _ _ | exact .max _ _ _ rfl rfl | exact .min _ _ _ rfl rfl)) | with_reducible refine Calmly.gl_tf (fun _ _ => ?_) | with_reducible refine Calmly.gl_ft (fun _ _ => ?_)) | ((with_reducible refine Calmly.is_eff ?_); refine Calmly.mix_eff rfl (fun _ _ => ?_)) | ((with_reducible refine Calmly.is_gf ?_); refine Calmly.mix_gf rfl rfl rfl ?_; first | with_reducible refine Calmly.gf_tt (fun _ _ => ?_) | with_reducible refine Calmly.gf_ff (fun _ _ => ?_) | with_reducible refine Calmly.gf_tf (kept_of hk) (fun _ _ => ?_) | with_reducible refine Calmly.gf_ft (kept_of hk) (fun _ _ => ?_)) | ((with_reducible refine Calmly.is_tail ?_); first | refine Calmly.mix_tail_nil ?_ | refine Calmly.mix_tail rfl (fun _ _ => ?_)) | ((with_reducible refine Calmly.is_kept ?_); refine ⟨kept_of hk, ?_⟩) | (with_reducible refine Calmly.mix_alt ?_ ?_))
    exact ⟨.tuple #[.slice none 0 0, .int .i64 E], by simp [results, Tryz.results18, go_sem], none, 0, 0, rfl, Sl.nil _ 1, BW⟩
  subst hz
  have hV3 : Below V2.heap.size V2 ((V2.alloc (.cells #[.slice none 0 0] 22)).alloc (.cells #[.bool false] 4)) := ((Below.refl _ _).alloc (Nat.le_refl _) _).alloc (by simp) _
  have g2 := cell_block (blk_keep x2 hV3) 0
  go_wp2_with (first | ((with_reducible refine Calmly.is_fl ?_); refine Calmly.mix_fl rfl ?_ (fun _ _ => ?_); (first | exact .move _ | exact .load _ _ | exact .fieldAddr _ _ _ (by kernel_rfl) | exact .assign _ | exact .binOp _ _ _ _ _ rfl | exact .indexAddr _ _ _ | exact .len _ _ (by kernel_rfl) | exact .field _ _ _ | exact .extract _ _ | exact .pick _ _ _ | exact .build _ _ | exact .slice _ _ _ _ _ | exact .unOp _ _ _ rfl | exact .index _ _ _ | exact .max _ _ _ rfl rfl | exact .min _ _ _ rfl rfl)) | ((with_reducible refine Calmly.is_gl ?_); refine Calmly.mix_gl rfl rfl rfl ?_; first | ((first | with_reducible refine Calmly.gl_tt ?_ (fun _ _ => ?_) | with_reducible refine Calmly.gl_ff ?_ (fun _ _ => ?_)); (first | exact .move _ | exact .load _ _ | exact .fieldAddr _ _ _ (by kernel_rfl) | exact .assign _ | exact .binOp _ _ _ _ _ rfl | exact .indexAddr _ _ _ | exact .len _ _ (by kernel_rfl) | exact .field _ _ _ | exact .extract _ _ | exact .pick _ _ _ | exact .build _ _ | exact .slice _ _ _ _ _ | exact .unOp _ _ _ rfl | exact .index _ _ _ | exact .max _ _ _ rfl rfl | exact .min _ _ _ rfl rfl)) | with_reducible refine Calmly.gl_tf (fun _ _ => ?_) | with_reducible refine Calmly.gl_ft (fun _ _ => ?_)) | ((with_reducible refine Calmly.is_eff ?_); refine Calmly.mix_eff rfl (fun _ _ => ?_)) | ((with_reducible refine Calmly.is_gf ?_); refine Calmly.mix_gf rfl rfl rfl ?_; first | with_reducible refine Calmly.gf_tt (fun _ _ => ?_) | with_reducible refine Calmly.gf_ff (fun _ _ => ?_) | with_reducible refine Calmly.gf_tf (kept_of hk) (fun _ _ => ?_) | with_reducible refine Calmly.gf_ft (kept_of hk) (fun _ _ => ?_)) | ((with_reducible refine Calmly.is_tail ?_); first | refine Calmly.mix_tail_nil ?_ | refine Calmly.mix_tail rfl (fun _ _ => ?_)) | ((with_reducible refine Calmly.is_kept ?_); refine ⟨kept_of hk, ?_⟩) | (with_reducible refine Calmly.mix_alt ?_ ?_) | (go_at_call 54; refine (counts_any _ _).mono ?_; rintro e w3 ⟨rfl, rfl⟩))
  have BV3 := BW.trans (hV3.mono BW.size)
  have hbb : ((V2.alloc (.cells #[.slice none 0 0] 22)).alloc (.cells #[.bool false] 4)).heap[V2.heap.size]? = some (.cells #[.slice none 0 0] 22) := box1 (Below.alloc (Below.refl _ _) (Nat.le_refl _) _)
  have hbf : ((V2.alloc (.cells #[.slice none 0 0] 22)).alloc (.cells #[.bool false] 4)).heap[V2.heap.size + 1]? = some (.cells #[.bool false] 4) := by
    have := alloc_new (V2.alloc (.cells #[.slice none 0 0] 22)) (.cells #[.bool false] 4)
    simpa using this
  have hV3s : ((V2.alloc (.cells #[.slice none 0 0] 22)).alloc (.cells #[.bool false] 4)).heap.size = V2.heap.size + 2 := by simp
  clear f0 f1 f2 f3 g2
  generalize (V2.alloc (.cells #[.slice none 0 0] 22)).alloc (.cells #[.bool false] 4) = V3 at hV3 BV3 hbb hbf hV3s ⊢
  have hV4 : Below V3.heap.size V3 (V3.alloc (.cells #[.int .i64 (wn : Int)] 3)) := (Below.refl _ _).alloc (Nat.le_refl _) _
  have hbw := alloc_new V3 (.cells #[.int .i64 (wn : Int)] 3)
  rw [hV3s] at hbw
  have hV4s : (V3.alloc (.cells #[.int .i64 (wn : Int)] 3)).heap.size = V3.heap.size + 1 := by simp
  have hb4 := blk_keep hbb hV4
  have hf4 := blk_keep hbf hV4
  have B24 : Below V2.heap.size V2 (V3.alloc (.cells #[.int .i64 (wn : Int)] 3)) := hV3.trans (hV4.mono (by omega))
  generalize V3.alloc (.cells #[.int .i64 (wn : Int)] 3) = V4 at hV4 hbw hV4s hb4 hf4 B24 ⊢
  obtain ⟨z1, z2⟩ : openE step xs ws = 0 ∧ bandE l = 0 := ⟨firstE_all HF.out _ (by simp), firstE_all HF.out _ (by simp)⟩
  have Z1 := Lib.hid z1
  have Z2 := Lib.hid z2
  have hwn : wn ≤ 3 := by
    have hz : openE step xs ws = 0 := z1
    unfold openE at hz
    split at hz
    · have := (wavesE_ok hz).1; omega
    · exact absurd hz (by assumption)
  rw [z1, z2]
  clear z1 z2
  refine (wpIn_wide (n := 5)).1 ?_
  refine range_midP (gf := 81) (m := 4) rfl (enters_of Tryz.func81 (by kernel_rfl) rfl) (enc := encT) (Kp := Keeps [V2.heap.size, V2.heap.size + 1]) (Px := PxT [V2.heap.size, V2.heap.size + 1] wn)
    (counts_onon V4 wn (V2.heap.size + 1 + 1) [V2.heap.size, V2.heap.size + 1] hbw (fun h => by simp at h; omega) (fun b h => by simp at h; omega) (by omega) _) (fun h k => h.trans k) (fun W l o o' _ hl ho => Keeps.put o' hl ho) (fun _ => rfl)
    (fun pre W => MatchI V2 V2.heap.size (V2.heap.size + 1) (stM (goodM xs ws l) pre) W) (MatchI.own V2 _ _ V4.heap.size (stM (goodM xs ws l)) (by omega)) ⟨B24, ⟨none, 0, 0, hb4, Sl.nil _ 1, by simp⟩, hf4, by simp [stM]⟩
    (fun pre x a' W => (MatchI V2 V2.heap.size (V2.heap.size + 1) (stM (goodM xs ws l) pre) W ∧ PxT [V2.heap.size, V2.heap.size + 1] wn x W) ∧ a' = { tmps := #[.agg #[.int .i64 step, .slice ra rn rc], .slice wa wn wc, .slice ba bn bc, .pointer (some ⟨w.heap.size, 0, none⟩), .pointer (some ⟨w.heap.size + 1, 0, none⟩), .pointer (some ⟨w.heap.size + 1 + 1, 0, none⟩), .slice none 0 0, .int .i64 0, .int .i64 0, .pointer (some ⟨V2.heap.size, 0, none⟩), .pointer (some ⟨V2.heap.size + 1, 0, none⟩), .slice x.1.1 x.1.2.1 x.1.2.2, undef, undef, .agg #[.int .i64 step, .slice ra rn rc], .slice wa wn wc, .int .i64 0, .slice ba bn bc, .int .i64 0, .slice (some ⟨w1.heap.size, 0, none⟩) 2 2, .int .i64 0, .int .i64 0, .bool false, undef, .slice wa wn wc, .int .i64 (wn : Int), .func (.func 81) #[] #[.pointer (some ⟨V2.heap.size + 1 + 1, 0, none⟩)], .slice x.1.1 x.1.2.1 x.1.2.2, undef, undef, undef, undef, undef, undef, undef, undef, undef, undef, undef, undef, undef, undef, undef, undef, undef, undef, undef, undef, undef, undef, undef, undef, undef, undef, undef, undef, undef], defers := [] })
    (fun pre x a' => OwnFrom.and (OwnFrom.and (MatchI.own V2 _ _ V4.heap.size (fun _ => stM (goodM xs ws l) pre) (by omega)) (PxT.own _ _ _ V4.heap.size)) (own_pure' _ (fun _ => a' = _))) ?assign ?body ?done
  case assign =>
    rintro r pre x W K hi hpx hK
    gi_wp2
    exact hK _ _ (KeepsOthers.refl _) (Keeps.refl _ _) ⟨⟨hi, hpx⟩, rfl⟩
  case body =>
    rintro r pre ⟨⟨xa, xn, xc⟩, t⟩ a' W ⟨⟨hM, hP⟩, rfl⟩
    have hz3 : (recF step xs).2 = 0 ∧ wavesE xs.length ws = 0 := by
      have hz := Z1.out
      unfold openE at hz
      split at hz
      · exact ⟨by assumption, hz⟩
      · exact absurd hz (by assumption)
    obtain ⟨u1, u2, _, _, u5⟩ := recF_ok hz3.1
    have u6 := (wavesE_ok hz3.2).2
    have u7 := wavesE_bd hz3.2
    have u8 := bandE_ok Z2.out
    have hq0 : 0 < rn := by omega
    have hq1 : rn ≤ 26 := by omega
    have hq2 : bn ≤ 6 := by omega
    have HX := Lib.hid u5
    have HW := Lib.hid u7
    have HL : Hid (∀ i, i < ws.length → (ws[i]?.getD []).length = rn) := Lib.hid (fun i hi => by have := (wavE_ok (u6 i hi)).1; omega)
    have HO : Hid (∀ k, k < l.length → oscE (l[k]?.getD four0).1 = 0) := Lib.hid (fun k hk => (bndE_ok (u8.2.2 k hk)).1)
    clear u1 u2 u5 u6 u7 u8 hz3
    obtain ⟨p1, p2, p3, p4⟩ := hP
    dsimp only at p1 p2 p3 p4
    obtain rfl : wn = xn := by have := p1.len; omega
    have hW := hM.bel
    have y1 := blk_keep x1 hW
    have y2 := blk_keep x2 hW
    have y3 := blk_keep x3 hW
    have g0 := cell_block y1 0
    have g1 := cell_block y1 1
    have g2 := cell_block y2 0
    have g3 := cell_block y3 0
    have r0 := (h0.keep BW).keep hW
    have r1 := (h1.keep BW).keep hW
    have r2 := (h2.keep BW).keep hW
    have hgood : goodM xs ws l t = (decide (gsT (adTo xs ws t wn) rn ≤ 1000) && (outT (adTo xs ws t wn) l bn).isEmpty) := by
      unfold goodM
      rw [show ws.length = wn by omega, show xs.length = rn by omega, show l.length = bn by omega]
    have hszt : szs t = szT t wn := by unfold szs; rw [p3]
    have hstep := stM_snoc (goodM xs ws l) pre ((xa, wn, xc), t)
    dsimp only at hstep
    rw [hstep]
    clear hstep
    obtain ⟨st, hst⟩ : ∃ st, stM (goodM xs ws l) pre = st := ⟨_, rfl⟩
    rw [hst] at hM ⊢
    clear hst
    obtain ⟨sb, sf⟩ := st
    obtain ⟨m1', ⟨a0, n0, c0', hb0, hs0, hn0⟩, hf0, hbl, hbd⟩ := hM
    have hM' : MatchI V2 V2.heap.size (V2.heap.size + 1) (sb, sf) W := ⟨m1', ⟨a0, n0, c0', hb0, hs0, hn0⟩, hf0, hbl, hbd⟩
    dsimp only at hs0 hf0 hbl hbd
    have g4 := cell_block hb0 0
    have g5 := cell_block hf0 0
    have P4 := Lib.hid p4
    have HBD := Lib.hid hbd
    have HG := Lib.hid hgood
    have HST := Lib.hid hszt
    have hl0 : n0 ≤ 1000 := by have := hs0.len; omega
    have hszb : szs sb = szT sb n0 := by unfold szs; rw [hs0.len]
    have HSB := Lib.hid hszb
    clear p4 hgood hszt hbd hszb hbl
    cases sf
    · gi_wp2
      refine Calmly.wpIn_region_mix 7 (.fl 0 <| .fl 1 <| .gl 2 <| .gl 4 <| .gf 3 <| .gf 5 <| .gl 6 <| .tail [7]) (by kernel_rfl) (by kernel_rfl) (by rintro a w ⟨h, _⟩; cases h) ?_
      have hk := Below.refl W.drew.heap.size W.drew
      go_wp2_with (first | ((with_reducible refine Calmly.is_fl ?_); refine Calmly.mix_fl rfl ?_ (fun _ _ => ?_); (first | exact .move _ | exact .load _ _ | exact .fieldAddr _ _ _ (by kernel_rfl) | exact .assign _ | exact .binOp _ _ _ _ _ rfl | exact .indexAddr _ _ _ | exact .len _ _ (by kernel_rfl) | exact .field _ _ _ | exact .extract _ _ | exact .pick _ _ _ | exact .build _ _ | exact .slice _ _ _ _ _ | exact .unOp _ _ _ rfl | exact .index _ _ _ | exact .max _ _ _ rfl rfl | exact .min _ _ _ rfl rfl)) | ((with_reducible refine Calmly.is_gl ?_); refine Calmly.mix_gl rfl rfl rfl ?_; first | ((first | with_reducible refine Calmly.gl_tt ?_ (fun _ _ => ?_) | with_reducible refine Calmly.gl_ff ?_ (fun _ _ => ?_)); (first | exact .move _ | exact .load _ _ | exact .fieldAddr _ _ _ (by kernel_rfl) | exact .assign _ | exact .binOp _ _ _ _ _ rfl | exact .indexAddr _ _ _ | exact .len _ _ (by kernel_rfl) | exact .field _ _ _ | exact .extract _ _ | exact .pick _ _ _ | exact .build _ _ | exact .slice _ _ _ _ _ | exact .unOp _ _ _ rfl | exact .index _ _ _ | exact .max _ _ _ rfl rfl | exact .min _ _ _ rfl rfl)) | with_reducible refine Calmly.gl_tf (fun _ _ => ?_) | with_reducible refine Calmly.gl_ft (fun _ _ => ?_)) | ((with_reducible refine Calmly.is_eff ?_); refine Calmly.mix_eff rfl (fun _ _ => ?_)) | ((with_reducible refine Calmly.is_gf ?_); refine Calmly.mix_gf rfl rfl rfl ?_; first | with_reducible refine Calmly.gf_tt (fun _ _ => ?_) | with_reducible refine Calmly.gf_ff (fun _ _ => ?_) | with_reducible refine Calmly.gf_tf (kept_of hk) (fun _ _ => ?_) | with_reducible refine Calmly.gf_ft (kept_of hk) (fun _ _ => ?_)) | ((with_reducible refine Calmly.is_tail ?_); first | refine Calmly.mix_tail_nil ?_ | refine Calmly.mix_tail rfl (fun _ _ => ?_)) | ((with_reducible refine Calmly.is_kept ?_); refine ⟨kept_of hk, ?_⟩) | (with_reducible refine Calmly.mix_alt ?_ ?_))
      have BD : Below W.heap.size W W.drew := (Below.refl _ _).drew
      cases hok : decide (gsT (adTo xs ws t wn) rn ≤ 1000)
      · have he : mtStep (goodM xs ws l) (sb, false) t = (sb, false) := by
          unfold mtStep
          rw [if_neg]
          rintro ⟨hh, _⟩
          rw [HG.out, hok] at hh
          cases hh
        have HM := Lib.hid he
        clear he
        have HK := Lib.hid hok
        clear hok
        gi_wp2_with (refine ⟨trivial, ?_⟩; gi_at_call 56; refine (CallsIn.inRound r (callsIn_wide.2 (added_any ra rn rc xs wa wn wc ws xa xc t _ (r0.keep BD) (r1.keep BD) (p1.keep BD) hq0 hq1 (by omega) HX.out HL.out HW.out P4.out))).mono ?_; rintro e w5 ⟨a5, c5, rfl, o5, hb5⟩; rw [HK.out]; replace BD := BD.trans (hb5.mono BD.size); have y5 := cell_block (blk_keep y3 BD) 0)
        refine ⟨trivial, ?_⟩
        gi_wp2
        exact ⟨ko_below BD, Keeps.of_below BD, by rw [HM.out]; exact hM'.keep BD⟩
      · have hsb : ∀ j : Nat, -1000 ≤ (adTo xs ws t wn)[j]?.getD 0 ∧ (adTo xs ws t wn)[j]?.getD 0 ≤ 1000 := by
          intro j
          rcases Nat.lt_or_ge j rn with hj | hj
          · exact (gsT_le _ 1000 (by omega) rn).1 (of_decide_eq_true hok) j hj
          · rw [List.getElem?_eq_none (by rw [adTo_len]; omega)]
            simp
        have HS := Lib.hid hsb
        have HK := Lib.hid hok
        rw [hok] at HG
        clear hsb hok
        cases hem : (outT (adTo xs ws t wn) l bn).isEmpty
        · have he : mtStep (goodM xs ws l) (sb, false) t = (sb, false) := by
            unfold mtStep
            rw [if_neg]
            rintro ⟨hh, _⟩
            rw [HG.out, hem] at hh
            cases hh
          have HM := Lib.hid he
          have HE := Lib.hid hem
          clear he hem
          gi_wp2_with (first | (refine ⟨trivial, ?_⟩; gi_at_call 56; refine (CallsIn.inRound r (callsIn_wide.2 (added_any ra rn rc xs wa wn wc ws xa xc t _ (r0.keep BD) (r1.keep BD) (p1.keep BD) hq0 hq1 (by omega) HX.out HL.out HW.out P4.out))).mono ?_; rintro e w5 ⟨a5, c5, rfl, o5, hb5⟩; rw [HK.out]; replace BD := BD.trans (hb5.mono BD.size); have y5 := cell_block (blk_keep y3 BD) 0) | (refine ⟨trivial, ?_⟩; gi_at_call 57; refine (CallsIn.inRound r (callsIn_wide.2 (outside_any a5 rn c5 _ ba bn bc l _ o5.si (r2.keep BD) hq0 hq1 HS.out (by omega) HO.out))).mono ?_; rintro e w6 ⟨a6, n6, c6, rfl, o6, hb6⟩; replace BD := BD.trans (hb6.mono BD.size); have q6 := q_false HE.out o6.len; have m6 := o6.si.max; have c6' := o6.si.cap))
          exact ⟨ko_below BD, Keeps.of_below BD, by rw [HM.out]; exact hM'.keep BD⟩
        · have he : mtStep (goodM xs ws l) (sb, false) t = (t, true) := by
            unfold mtStep
            rw [if_pos]
            exact ⟨by rw [HG.out, hem]; rfl, fun h => by cases h⟩
          have HM := Lib.hid he
          have HE := Lib.hid hem
          clear he hem
          gi_wp2_with (first | (refine ⟨trivial, ?_⟩; gi_at_call 56; refine (CallsIn.inRound r (callsIn_wide.2 (added_any ra rn rc xs wa wn wc ws xa xc t _ (r0.keep BD) (r1.keep BD) (p1.keep BD) hq0 hq1 (by omega) HX.out HL.out HW.out P4.out))).mono ?_; rintro e w5 ⟨a5, c5, rfl, o5, hb5⟩; rw [HK.out]; replace BD := BD.trans (hb5.mono BD.size); have y5 := cell_block (blk_keep y3 BD) 0) | (refine ⟨trivial, ?_⟩; gi_at_call 57; refine (CallsIn.inRound r (callsIn_wide.2 (outside_any a5 rn c5 _ ba bn bc l _ o5.si (r2.keep BD) hq0 hq1 HS.out (by omega) HO.out))).mono ?_; rintro e w6 ⟨a6, n6, c6, rfl, o6, hb6⟩; replace BD := BD.trans (hb6.mono BD.size); have q6 := q_true HE.out o6.len; have m6 := o6.si.max; have c6' := o6.si.cap) | (refine ⟨trivial, ?_⟩; gi_at_call 58; refine (CallsIn.inRound r (callsIn_wide.2 (clone_any xa wn xc t _ (p1.keep BD) (by omega)))).mono ?_; rintro e w7 ⟨a7, c7, rfl, o7, hb7⟩; have hg7 := BD.size; replace BD := BD.trans (hb7.mono BD.size); have z7 := blk_keep hb0 BD; have z8 := blk_keep hf0 BD; have f7 := cell_block z7 0; have f8 := cell_block z8 0; have f9 := frozen_block z7 0; have f10 := frozen_block z8 0))
          exact ⟨((ko_below BD).trans (KeepsOthers.setCell _ _ _)).trans (KeepsOthers.setCell _ _ _), ((Keeps.of_below BD).trans (Keeps.setCell _ _ _ (by simp))).trans (Keeps.setCell _ _ _ (by simp)), by rw [HM.out]; exact (hM'.keep BD).set o7.si (fun b o e => by have h1 := o7.ge b o e; have h2 := (blk_lt hf0); simp; omega) rfl (Nat.le_refl _) (by omega) P4.out⟩
    · by_cases hge : szs sb ≤ szs t
      · have he : mtStep (goodM xs ws l) (sb, true) t = (sb, true) := by
          unfold mtStep
          rw [if_neg]
          rintro ⟨_, hh⟩
          have := hh rfl
          dsimp only at this
          omega
        have HM := Lib.hid he
        clear he
        rw [HST.out, HSB.out] at hge
        gi_wp2
        refine Calmly.wpIn_region_mix 7 (.fl 0 <| .fl 1 <| .gl 2 <| .gl 4 <| .gf 3 <| .gf 5 <| .gl 6 <| .tail [7]) (by kernel_rfl) (by kernel_rfl) (by rintro a w ⟨h, _⟩; cases h) ?_
        have hk := Below.refl W.drew.heap.size W.drew
        have BD : Below W.heap.size W W.drew := (Below.refl _ _).drew
        have S1 := Lib.hid True.intro
        go_wp2_with (first | ((with_reducible refine Calmly.is_fl ?_); refine Calmly.mix_fl rfl ?_ (fun _ _ => ?_); (first | exact .move _ | exact .load _ _ | exact .fieldAddr _ _ _ (by kernel_rfl) | exact .assign _ | exact .binOp _ _ _ _ _ rfl | exact .indexAddr _ _ _ | exact .len _ _ (by kernel_rfl) | exact .field _ _ _ | exact .extract _ _ | exact .pick _ _ _ | exact .build _ _ | exact .slice _ _ _ _ _ | exact .unOp _ _ _ rfl | exact .index _ _ _ | exact .max _ _ _ rfl rfl | exact .min _ _ _ rfl rfl)) | ((with_reducible refine Calmly.is_gl ?_); refine Calmly.mix_gl rfl rfl rfl ?_; first | ((first | with_reducible refine Calmly.gl_tt ?_ (fun _ _ => ?_) | with_reducible refine Calmly.gl_ff ?_ (fun _ _ => ?_)); (first | exact .move _ | exact .load _ _ | exact .fieldAddr _ _ _ (by kernel_rfl) | exact .assign _ | exact .binOp _ _ _ _ _ rfl | exact .indexAddr _ _ _ | exact .len _ _ (by kernel_rfl) | exact .field _ _ _ | exact .extract _ _ | exact .pick _ _ _ | exact .build _ _ | exact .slice _ _ _ _ _ | exact .unOp _ _ _ rfl | exact .index _ _ _ | exact .max _ _ _ rfl rfl | exact .min _ _ _ rfl rfl)) | with_reducible refine Calmly.gl_tf (fun _ _ => ?_) | with_reducible refine Calmly.gl_ft (fun _ _ => ?_)) | ((with_reducible refine Calmly.is_eff ?_); refine Calmly.mix_eff rfl (fun _ _ => ?_)) | ((with_reducible refine Calmly.is_gf ?_); refine Calmly.mix_gf rfl rfl rfl ?_; first | with_reducible refine Calmly.gf_tt (fun _ _ => ?_) | with_reducible refine Calmly.gf_ff (fun _ _ => ?_) | with_reducible refine Calmly.gf_tf (kept_of hk) (fun _ _ => ?_) | with_reducible refine Calmly.gf_ft (kept_of hk) (fun _ _ => ?_)) | ((with_reducible refine Calmly.is_tail ?_); first | refine Calmly.mix_tail_nil ?_ | refine Calmly.mix_tail rfl (fun _ _ => ?_)) | ((with_reducible refine Calmly.is_kept ?_); refine ⟨kept_of hk, ?_⟩) | (with_reducible refine Calmly.mix_alt ?_ ?_) | (go_at_call 55; have _ := S1.out; clear S1; refine (sizes_any xa wn xc t _ (p1.keep (Below.refl _ _).drew) (by omega) (fun j => by have := P4.out j; omega)).mono ?_; rintro e w3 ⟨rfl, rfl⟩) | (go_at_call 55; refine (sizes_any a0 n0 c0' sb _ (hs0.keep (Below.refl _ _).drew) (by omega) (fun j => by have := HBD.out j; omega)).mono ?_; rintro e w3 ⟨rfl, rfl⟩))
        gi_wp2
        exact ⟨ko_below BD, Keeps.of_below BD, by rw [HM.out]; exact hM'.keep BD⟩
      have hlt : szT t wn < szT sb n0 := by rw [← HST.out, ← HSB.out]; omega
      clear hge
      gi_wp2
      refine Calmly.wpIn_region_mix 7 (.fl 0 <| .fl 1 <| .gl 2 <| .gl 4 <| .gf 3 <| .gf 5 <| .gl 6 <| .tail [7]) (by kernel_rfl) (by kernel_rfl) (by rintro a w ⟨h, _⟩; cases h) ?_
      have hk := Below.refl W.drew.heap.size W.drew
      have S1 := Lib.hid True.intro
      go_wp2_with (first | ((with_reducible refine Calmly.is_fl ?_); refine Calmly.mix_fl rfl ?_ (fun _ _ => ?_); (first | exact .move _ | exact .load _ _ | exact .fieldAddr _ _ _ (by kernel_rfl) | exact .assign _ | exact .binOp _ _ _ _ _ rfl | exact .indexAddr _ _ _ | exact .len _ _ (by kernel_rfl) | exact .field _ _ _ | exact .extract _ _ | exact .pick _ _ _ | exact .build _ _ | exact .slice _ _ _ _ _ | exact .unOp _ _ _ rfl | exact .index _ _ _ | exact .max _ _ _ rfl rfl | exact .min _ _ _ rfl rfl)) | ((with_reducible refine Calmly.is_gl ?_); refine Calmly.mix_gl rfl rfl rfl ?_; first | ((first | with_reducible refine Calmly.gl_tt ?_ (fun _ _ => ?_) | with_reducible refine Calmly.gl_ff ?_ (fun _ _ => ?_)); (first | exact .move _ | exact .load _ _ | exact .fieldAddr _ _ _ (by kernel_rfl) | exact .assign _ | exact .binOp _ _ _ _ _ rfl | exact .indexAddr _ _ _ | exact .len _ _ (by kernel_rfl) | exact .field _ _ _ | exact .extract _ _ | exact .pick _ _ _ | exact .build _ _ | exact .slice _ _ _ _ _ | exact .unOp _ _ _ rfl | exact .index _ _ _ | exact .max _ _ _ rfl rfl | exact .min _ _ _ rfl rfl)) | with_reducible refine Calmly.gl_tf (fun _ _ => ?_) | with_reducible refine Calmly.gl_ft (fun _ _ => ?_)) | ((with_reducible refine Calmly.is_eff ?_); refine Calmly.mix_eff rfl (fun _ _ => ?_)) | ((with_reducible refine Calmly.is_gf ?_); refine Calmly.mix_gf rfl rfl rfl ?_; first | with_reducible refine Calmly.gf_tt (fun _ _ => ?_) | with_reducible refine Calmly.gf_ff (fun _ _ => ?_) | with_reducible refine Calmly.gf_tf (kept_of hk) (fun _ _ => ?_) | with_reducible refine Calmly.gf_ft (kept_of hk) (fun _ _ => ?_)) | ((with_reducible refine Calmly.is_tail ?_); first | refine Calmly.mix_tail_nil ?_ | refine Calmly.mix_tail rfl (fun _ _ => ?_)) | ((with_reducible refine Calmly.is_kept ?_); refine ⟨kept_of hk, ?_⟩) | (with_reducible refine Calmly.mix_alt ?_ ?_) | (go_at_call 55; have _ := S1.out; clear S1; refine (sizes_any xa wn xc t _ (p1.keep (Below.refl _ _).drew) (by omega) (fun j => by have := P4.out j; omega)).mono ?_; rintro e w3 ⟨rfl, rfl⟩) | (go_at_call 55; refine (sizes_any a0 n0 c0' sb _ (hs0.keep (Below.refl _ _).drew) (by omega) (fun j => by have := HBD.out j; omega)).mono ?_; rintro e w3 ⟨rfl, rfl⟩))
      have BD : Below W.heap.size W W.drew := (Below.refl _ _).drew
      cases hok : decide (gsT (adTo xs ws t wn) rn ≤ 1000)
      · have he : mtStep (goodM xs ws l) (sb, true) t = (sb, true) := by
          unfold mtStep
          rw [if_neg]
          rintro ⟨hh, _⟩
          rw [HG.out, hok] at hh
          cases hh
        have HM := Lib.hid he
        clear he
        have HK := Lib.hid hok
        clear hok
        gi_wp2_with (refine ⟨trivial, ?_⟩; gi_at_call 56; refine (CallsIn.inRound r (callsIn_wide.2 (added_any ra rn rc xs wa wn wc ws xa xc t _ (r0.keep BD) (r1.keep BD) (p1.keep BD) hq0 hq1 (by omega) HX.out HL.out HW.out P4.out))).mono ?_; rintro e w5 ⟨a5, c5, rfl, o5, hb5⟩; rw [HK.out]; replace BD := BD.trans (hb5.mono BD.size); have y5 := cell_block (blk_keep y3 BD) 0)
        refine ⟨trivial, ?_⟩
        gi_wp2
        exact ⟨ko_below BD, Keeps.of_below BD, by rw [HM.out]; exact hM'.keep BD⟩
      · have hsb : ∀ j : Nat, -1000 ≤ (adTo xs ws t wn)[j]?.getD 0 ∧ (adTo xs ws t wn)[j]?.getD 0 ≤ 1000 := by
          intro j
          rcases Nat.lt_or_ge j rn with hj | hj
          · exact (gsT_le _ 1000 (by omega) rn).1 (of_decide_eq_true hok) j hj
          · rw [List.getElem?_eq_none (by rw [adTo_len]; omega)]
            simp
        have HS := Lib.hid hsb
        have HK := Lib.hid hok
        rw [hok] at HG
        clear hsb hok
        cases hem : (outT (adTo xs ws t wn) l bn).isEmpty
        · have he : mtStep (goodM xs ws l) (sb, true) t = (sb, true) := by
            unfold mtStep
            rw [if_neg]
            rintro ⟨hh, _⟩
            rw [HG.out, hem] at hh
            cases hh
          have HM := Lib.hid he
          have HE := Lib.hid hem
          clear he hem
          gi_wp2_with (first | (refine ⟨trivial, ?_⟩; gi_at_call 56; refine (CallsIn.inRound r (callsIn_wide.2 (added_any ra rn rc xs wa wn wc ws xa xc t _ (r0.keep BD) (r1.keep BD) (p1.keep BD) hq0 hq1 (by omega) HX.out HL.out HW.out P4.out))).mono ?_; rintro e w5 ⟨a5, c5, rfl, o5, hb5⟩; rw [HK.out]; replace BD := BD.trans (hb5.mono BD.size); have y5 := cell_block (blk_keep y3 BD) 0) | (refine ⟨trivial, ?_⟩; gi_at_call 57; refine (CallsIn.inRound r (callsIn_wide.2 (outside_any a5 rn c5 _ ba bn bc l _ o5.si (r2.keep BD) hq0 hq1 HS.out (by omega) HO.out))).mono ?_; rintro e w6 ⟨a6, n6, c6, rfl, o6, hb6⟩; replace BD := BD.trans (hb6.mono BD.size); have q6 := q_false HE.out o6.len; have m6 := o6.si.max; have c6' := o6.si.cap))
          exact ⟨ko_below BD, Keeps.of_below BD, by rw [HM.out]; exact hM'.keep BD⟩
        · have he : mtStep (goodM xs ws l) (sb, true) t = (t, true) := by
            unfold mtStep
            rw [if_pos]
            exact ⟨by rw [HG.out, hem]; rfl, fun _ => by dsimp only; rw [HST.out, HSB.out]; exact hlt⟩
          have HM := Lib.hid he
          have HE := Lib.hid hem
          clear he hem
          gi_wp2_with (first | (refine ⟨trivial, ?_⟩; gi_at_call 56; refine (CallsIn.inRound r (callsIn_wide.2 (added_any ra rn rc xs wa wn wc ws xa xc t _ (r0.keep BD) (r1.keep BD) (p1.keep BD) hq0 hq1 (by omega) HX.out HL.out HW.out P4.out))).mono ?_; rintro e w5 ⟨a5, c5, rfl, o5, hb5⟩; rw [HK.out]; replace BD := BD.trans (hb5.mono BD.size); have y5 := cell_block (blk_keep y3 BD) 0) | (refine ⟨trivial, ?_⟩; gi_at_call 57; refine (CallsIn.inRound r (callsIn_wide.2 (outside_any a5 rn c5 _ ba bn bc l _ o5.si (r2.keep BD) hq0 hq1 HS.out (by omega) HO.out))).mono ?_; rintro e w6 ⟨a6, n6, c6, rfl, o6, hb6⟩; replace BD := BD.trans (hb6.mono BD.size); have q6 := q_true HE.out o6.len; have m6 := o6.si.max; have c6' := o6.si.cap) | (refine ⟨trivial, ?_⟩; gi_at_call 58; refine (CallsIn.inRound r (callsIn_wide.2 (clone_any xa wn xc t _ (p1.keep BD) (by omega)))).mono ?_; rintro e w7 ⟨a7, c7, rfl, o7, hb7⟩; have hg7 := BD.size; replace BD := BD.trans (hb7.mono BD.size); have z7 := blk_keep hb0 BD; have z8 := blk_keep hf0 BD; have f7 := cell_block z7 0; have f8 := cell_block z8 0; have f9 := frozen_block z7 0; have f10 := frozen_block z8 0))
          exact ⟨((ko_below BD).trans (KeepsOthers.setCell _ _ _)).trans (KeepsOthers.setCell _ _ _), ((Keeps.of_below BD).trans (Keeps.setCell _ _ _ (by simp))).trans (Keeps.setCell _ _ _ (by simp)), by rw [HM.out]; exact (hM'.keep BD).set o7.si (fun b o e => by have h1 := o7.ge b o e; have h2 := (blk_lt hf0); simp; omega) rfl (Nat.le_refl _) (by omega) P4.out⟩
  case done =>
    rintro D ys W hD hys hi hK
    rw [stM_all _ _ _ hys] at hi
    obtain ⟨hX, hE⟩ := HOK.out (by trivial)
    obtain ⟨st, hst⟩ : ∃ st, mtF (goodM xs ws l) wn = st := ⟨_, rfl⟩
    rw [hst] at hX hE hi
    obtain ⟨sb, sf⟩ := st
    obtain ⟨m1', ⟨a0, n0, c0', hb0, hs0, hn0⟩, hf0, hbl, hbd⟩ := hi
    dsimp only at hX hE hs0 hf0
    subst hX hE
    have g4 := cell_block hb0 0
    have g5 := cell_block hf0 0
    clear hst hbl hbd
    go_wp2_with fail
    refine Calmly.wp_region_mix 3 (.fl 0 <| .fl 1 <| .eff 2 <| .tail [3, 4]) (by kernel_rfl) (by kernel_rfl) ?_
    have hk := Below.refl W.drew.heap.size W.drew
    go_wp2_with (first | ((with_reducible refine Calmly.is_fl ?_); refine Calmly.mix_fl rfl ?_ (fun _ _ => ?_); (first | exact .move _ | exact .load _ _ | exact .fieldAddr _ _ _ (by kernel_rfl) | exact .assign _ | exact .binOp _ _ _ _ _ rfl | exact .indexAddr _ _ _ | exact .len _ _ (by kernel_rfl) | exact .field _ _ _ | exact .extract _ _ | exact .pick _ _ _ | exact .build _ _ | exact .slice _ _ _ _ _ | exact .unOp _ _ _ rfl | exact .index _ _ _ | exact .max _ _ _ rfl rfl | exact .min _ _ _ rfl rfl)) | ((with_reducible refine Calmly.is_gl ?_); refine Calmly.mix_gl rfl rfl rfl ?_; first | ((first | with_reducible refine Calmly.gl_tt ?_ (fun _ _ => ?_) | with_reducible refine Calmly.gl_ff ?_ (fun _ _ => ?_)); (first | exact .move _ | exact .load _ _ | exact .fieldAddr _ _ _ (by kernel_rfl) | exact .assign _ | exact .binOp _ _ _ _ _ rfl | exact .indexAddr _ _ _ | exact .len _ _ (by kernel_rfl) | exact .field _ _ _ | exact .extract _ _ | exact .pick _ _ _ | exact .build _ _ | exact .slice _ _ _ _ _ | exact .unOp _ _ _ rfl | exact .index _ _ _ | exact .max _ _ _ rfl rfl | exact .min _ _ _ rfl rfl)) | with_reducible refine Calmly.gl_tf (fun _ _ => ?_) | with_reducible refine Calmly.gl_ft (fun _ _ => ?_)) | ((with_reducible refine Calmly.is_eff ?_); refine Calmly.mix_eff rfl (fun _ _ => ?_)) | ((with_reducible refine Calmly.is_gf ?_); refine Calmly.mix_gf rfl rfl rfl ?_; first | with_reducible refine Calmly.gf_tt (fun _ _ => ?_) | with_reducible refine Calmly.gf_ff (fun _ _ => ?_) | with_reducible refine Calmly.gf_tf (kept_of hk) (fun _ _ => ?_) | with_reducible refine Calmly.gf_ft (kept_of hk) (fun _ _ => ?_)) | ((with_reducible refine Calmly.is_tail ?_); first | refine Calmly.mix_tail_nil ?_ | refine Calmly.mix_tail rfl (fun _ _ => ?_)) | ((with_reducible refine Calmly.is_kept ?_); refine ⟨kept_of hk, ?_⟩) | (with_reducible refine Calmly.mix_alt ?_ ?_) | (go_at_call 27; refine (nUnless_any _ _ _).mono ?_; rintro e w3 ⟨rfl, rfl⟩))
    have hK' : W.drew.heap[D]? = some (.deferred (some [])) := hK
    refine ⟨by simp, .inl ⟨_, _, rfl, run_takeDeferred hK', ?_⟩⟩
    refine ⟨.tuple #[.slice a0 n0 c0', .int .i64 (unlessE sf 12)], by simp [results, Tryz.results18, go_sem], a0, n0, c0', rfl, ?_, ?_⟩
    · exact (Keeps.put (L := []) _ hK' rfl).si (hs0.keep (Below.refl _ _).drew) (fun _ _ _ => by simp)
    · exact (BW.trans (m1'.mono BW.size)).drew.trans (belowK_b (w := V4) (by omega) W.drew D _ _ hD hK' rfl rfl)
end Go.Proofs.YtfjcfbmfpefabaaGreat

namespace Go.Proofs.YtfjcfbmfpefabaaGreat
open Go.RowKit
open Calmly (Kept)

def exB : List Four := [((1000, 0), (2, 2)), ((500, 0), (1, 2))]
theorem ex_rec : recF 10 [1, 0, -1, 2] = (0, 0) := by decide
theorem ex_osc : oscE (500, 0) = 0 := by decide
theorem ex_open : openE 10 [1, 0, -1, 2] [[1, -2, 1, 0]] = 0 := by decide +kernel
theorem ex_band : bandE exB = 0 := by decide +kernel
theorem ex_match : mtF (goodM [1, 0, -1, 2] [[1, -2, 1, 0]] exB) 1 = ([-1], true) := by kernel_rfl

theorem SI.lit (w : World) (xs : List Int) (e : TypeId) {r n : Nat} (hr : r = w.heap.size) (hn : n = xs.length) (hm : n ≤ 1000) : SI (w.alloc (.cells (xs.map (Value.int .i64)).toArray e)) (some ⟨r, 0, none⟩) n n xs := by
  subst hr hn
  refine ⟨by simp, Nat.le_refl _, by unfold maxLen; omega, .inr ⟨_, 0, rfl, fun i hi => ?_⟩⟩
  rw [Nat.zero_add, cell_block (alloc_new _ _)]
  simp

set_option maxRecDepth 100000 in
set_option maxHeartbeats 1000000 in
theorem lRecord_any (w : World) : Calls Tryz.prog 16 #[] w fun e w' => ∃ a, e = .returned (.agg #[.int .i64 10, .slice a 4 4]) ∧ SI w' a 4 4 [1, 0, -1, 2] ∧ Below w.heap.size w w' := by
  go_enter Tryz.func16, Tryz.ntmps16
  go_wp2_with fail
  have h1 := SI.lit (w.alloc (.cells #[.int .i64 10, .slice (some ⟨w.heap.size + 1, 0, none⟩) 4 4] 24)) [1, 0, -1, 2] 3 (r := w.heap.size + 1) (n := 4) (by simp) rfl (by omega)
  refine bodyPost_ret (v := .agg #[.int .i64 10, .slice (some ⟨w.heap.size + 1, 0, none⟩) 4 4]) (by simp [results, Tryz.results16, go_sem]) rfl ⟨_, rfl, h1, ?_⟩
  exact ((Below.refl _ _).alloc (Nat.le_refl _) _).alloc (by simp) _

set_option maxRecDepth 100000 in
set_option maxHeartbeats 1000000 in
theorem lBand_any (w : World) : Calls Tryz.prog 19 #[] w fun e w' => ∃ a, e = .returned (.slice a 2 2) ∧ SB w' a 2 2 exB ∧ Below w.heap.size w w' := by
  go_enter Tryz.func19, Tryz.ntmps19
  go_wp2_with fail
  go_ret
  exact ⟨_, rfl, SB.lit w exB 105 (r := w.heap.size) (n := 2) rfl rfl (by omega), (Below.refl _ _).alloc (Nat.le_refl _) _⟩

set_option maxRecDepth 100000 in
set_option maxHeartbeats 1000000 in
theorem sameParts_any (d k : Int) (a b : Option Addr) (n m c e : Nat) (xs ys : List Int) (w : World) (h1 : SI w a n c xs) (h2 : SI w b m e ys) (R : Bool) (hR : decide (d = k ∧ xs = ys) = R) :
    Calls Tryz.prog 12 #[.agg #[.int .i64 d, .slice a n c], .agg #[.int .i64 k, .slice b m e]] w fun r w' => r = .returned (.bool R) ∧ Below w.heap.size w w' := by
  have BW : Below w.heap.size w ((w.alloc (.cells #[.int .i64 d, .slice a n c] 26)).alloc (.cells #[.int .i64 k, .slice b m e] 26)) := ((Below.refl _ _).alloc (Nat.le_refl _) _).alloc (by simp) _
  by_cases hd : d = k
  · subst hd
    have hq : decide (xs = ys) = R := by rw [← hR]; simp
    have HQ := Lib.hid hq
    clear hR hq
    go_enter Tryz.func12, Tryz.ntmps12
    go_wp2_with fail
    refine (ints_any a b n m c e xs ys _ (h1.keep BW) (h2.keep BW)).mono ?_
    rintro r w1 ⟨rfl, q, rfl⟩
    go_wp2_with fail
    go_ret
    exact ⟨ret_bool HQ.out, below_drewN BW q⟩
  · have hq : (d == k) = false := by simpa using hd
    have hR2 : R = false := by rw [← hR]; simp [hd]
    subst hR2
    clear hR hd
    go_enter Tryz.func12, Tryz.ntmps12
    go_wp2_with fail
    go_ret
    exact ⟨rfl, BW⟩

set_option maxRecDepth 100000 in
set_option maxHeartbeats 4000000 in
theorem awake_any (w : World) : Calls Tryz.prog 4 #[] w fun e w' => e = .returned (.bool true) ∧ Below w.heap.size w w' := by
  have hA : ∀ (A : World) (o : Obj), Below A.heap.size A (A.alloc o) := fun A o => (Below.refl _ _).alloc (Nat.le_refl _) _
  go_enter Tryz.func4, Tryz.ntmps4
  go_wp2_with fail
  refine (lRecord_any _).mono ?_
  rintro e w1 ⟨a1, rfl, s1, B1⟩
  go_wp2_with fail
  refine (DisplacementsOf_any 10 a1 4 4 _ _ s1 0 [1, 2, 2, 4] (by rw [ex_rec]) (fun h => absurd rfl h) (fun _ => ex_sums.symm)).mono ?_
  rintro e w2 ⟨a2, n2, c2, rfl, s2, hs⟩
  have B2 := B1.trans (hs.mono B1.size)
  clear hs s1 B1
  go_wp2_with fail
  refine (lRecord_any _).mono ?_
  rintro e w3 ⟨a3, rfl, s3, hs⟩
  replace B2 := B2.trans (hs.mono B2.size)
  replace s2 := s2.keep hs
  clear hs
  go_wp2_with fail
  refine (RestOf_any 10 a3 4 4 _ _ s3 0 5 [4, -2, -8, 6] (by rw [ex_rec]) (fun h => absurd rfl h) (fun _ => ⟨ex_restD, ex_restP⟩)).mono ?_
  rintro e w4 ⟨a4, n4, c4, rfl, s4, hs⟩
  replace B2 := B2.trans (hs.mono B2.size)
  replace s2 := s2.keep hs
  clear hs s3
  have hk := hA w4 (.cells #[.int .i64 5, .slice a4 n4 c4] 26)
  have x4 := alloc_new w4 (.cells #[.int .i64 5, .slice a4 n4 c4] 26)
  replace B2 := B2.trans (hk.mono B2.size)
  replace s2 := s2.keep hk
  replace s4 := s4.keep hk
  clear hk
  go_wp2_with fail
  obtain ⟨b4, hb4⟩ : ∃ b, w4.heap.size = b := ⟨_, rfl⟩
  refine (lRecord_any _).mono ?_
  rintro e w5 ⟨a5, rfl, s5, hs⟩
  replace B2 := B2.trans (hs.mono B2.size)
  replace s2 := s2.keep hs
  replace s4 := s4.keep hs
  replace x4 := blk_keep x4 hs
  rw [hb4] at x4 ⊢
  clear hs hb4
  go_wp2_with fail
  refine (ResponseOf_any 10 500 0 a5 4 4 _ _ s5 0 [-1, -2, -1, -2] (by rw [ex_rec, ex_osc]; rfl) (fun h => absurd rfl h) (fun _ => ex_resp.symm)).mono ?_
  rintro e w6 ⟨a6, n6, c6, rfl, s6, hs⟩
  replace B2 := B2.trans (hs.mono B2.size)
  replace s2 := s2.keep hs
  replace s4 := s4.keep hs
  replace x4 := blk_keep x4 hs
  clear hs s5
  go_wp2_with fail
  refine (lRecord_any _).mono ?_
  rintro e w7 ⟨a7, rfl, s7, hs⟩
  replace B2 := B2.trans (hs.mono B2.size)
  replace s2 := s2.keep hs
  replace s4 := s4.keep hs
  replace s6 := s6.keep hs
  replace x4 := blk_keep x4 hs
  clear hs
  go_wp2_with fail
  have hk := (hA w7 (.cells #[.int .i64 1, .int .i64 (-2), .int .i64 1, .int .i64 0] 3)).trans ((hA (w7.alloc (.cells #[.int .i64 1, .int .i64 (-2), .int .i64 1, .int .i64 0] 3)) (.cells #[.slice (some ⟨w7.heap.size, 0, none⟩) 4 4] 22)).mono (by simp))
  have sw := SW.one (w7.alloc (.cells #[.int .i64 1, .int .i64 (-2), .int .i64 1, .int .i64 0] 3)) (SI.lit w7 [1, -2, 1, 0] 3 (r := w7.heap.size) (n := 4) rfl rfl (by omega)) 22 (r := w7.heap.size + 1) (by simp)
  refine (lBand_any _).mono ?_
  rintro e w8 ⟨a8, rfl, s8, hs⟩
  replace hk := hk.trans (hs.mono hk.size)
  replace sw := sw.keep hs
  replace s7 := s7.keep hk
  replace B2 := B2.trans (hk.mono B2.size)
  replace s2 := s2.keep hk
  replace s4 := s4.keep hk
  replace s6 := s6.keep hk
  replace x4 := blk_keep x4 hk
  clear hs hk
  go_wp2_with fail
  refine (MatchFor_any 10 a7 4 4 _ _ 1 1 _ a8 2 2 _ _ s7 sw s8 0 0 [-1] (by rw [ex_open, ex_band]; rfl) (fun h => absurd rfl h) (fun _ => by rw [ex_match]; exact ⟨rfl, rfl⟩)).mono ?_
  rintro e w9 ⟨a9, n9, c9, rfl, s9, hs⟩
  replace B2 := B2.trans (hs.mono B2.size)
  replace s2 := s2.keep hs
  replace s4 := s4.keep hs
  replace s6 := s6.keep hs
  replace x4 := blk_keep x4 hs
  clear hs s7 sw s8
  have y0 := cell_block x4 0
  have y1 := cell_block x4 1
  have hl4 := blk_lt x4
  go_wp2_with fail
  have hk := hA w9 (.cells #[.int .i64 1, .int .i64 2, .int .i64 2, .int .i64 4] 3)
  refine (ints_any a2 _ n2 4 c2 4 _ [1, 2, 2, 4] _ (s2.keep hk) (SI.lit w9 [1, 2, 2, 4] 3 rfl rfl (by omega))).mono ?_
  rintro e w10 ⟨rfl, q, rfl⟩
  rw [show decide (([1, 2, 2, 4] : List Int) = [1, 2, 2, 4]) = true from by decide]
  replace hk := below_drewN hk q
  clear y0 y1
  generalize World.drewN _ q = w10 at hk ⊢
  replace B2 := B2.trans (hk.mono B2.size)
  replace s4 := s4.keep hk
  replace s6 := s6.keep hk
  replace s9 := s9.keep hk
  replace x4 := blk_keep x4 hk
  clear s2 hk
  have y0 := cell_block x4 0
  have y1 := cell_block x4 1
  go_wp2_with fail
  have hk := hA w10 (.cells #[.int .i64 4, .int .i64 (-2), .int .i64 (-8), .int .i64 6] 3)
  refine (sameParts_any 5 5 a4 _ n4 4 c4 4 _ [4, -2, -8, 6] _ (s4.keep hk) (SI.lit w10 [4, -2, -8, 6] 3 rfl rfl (by omega)) true (by decide)).mono ?_
  rintro e w11 ⟨rfl, hs⟩
  replace hk := hk.trans (hs.mono hk.size)
  replace B2 := B2.trans (hk.mono B2.size)
  replace s6 := s6.keep hk
  replace s9 := s9.keep hk
  clear s4 hk hs y0 y1 x4
  go_wp2_with fail
  have hk := hA w11 (.cells #[.int .i64 (-1), .int .i64 (-2), .int .i64 (-1), .int .i64 (-2)] 3)
  refine (ints_any a6 _ n6 4 c6 4 _ [-1, -2, -1, -2] _ (s6.keep hk) (SI.lit w11 [-1, -2, -1, -2] 3 rfl rfl (by omega))).mono ?_
  rintro e w12 ⟨rfl, q2, rfl⟩
  rw [show decide (([-1, -2, -1, -2] : List Int) = [-1, -2, -1, -2]) = true from by decide]
  replace hk := below_drewN hk q2
  generalize World.drewN _ q2 = w12 at hk ⊢
  replace B2 := B2.trans (hk.mono B2.size)
  replace s9 := s9.keep hk
  clear s6 hk
  go_wp2_with fail
  have hk := hA w12 (.cells #[.int .i64 (-1)] 3)
  refine (ints_any a9 _ n9 1 c9 1 _ [-1] _ (s9.keep hk) (SI.lit w12 [-1] 3 rfl rfl (by omega))).mono ?_
  rintro e w13 ⟨rfl, q3, rfl⟩
  rw [show decide (([-1] : List Int) = [-1]) = true from by decide]
  replace hk := below_drewN hk q3
  generalize World.drewN _ q3 = w13 at hk ⊢
  replace B2 := B2.trans (hk.mono B2.size)
  clear s9 hk
  go_wp2_with fail
  go_ret
  exact ⟨rfl, B2⟩
end Go.Proofs.YtfjcfbmfpefabaaGreat
