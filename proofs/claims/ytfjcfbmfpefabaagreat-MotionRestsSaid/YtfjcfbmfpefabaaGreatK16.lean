/- Contracts of chapter 2: all lists of times, yielded one after the other. Contracts of chapter 2: prices, and numbers in lowest terms. Contracts of chapter 2: the rest of a record, and its prices. Small functions of the helpers' package: modulo, floors, comparisons of fractions of any size. -/
import Derived.Test.YtfjcfbmfpefabaaGreatK15
namespace Go.Proofs.YtfjcfbmfpefabaaGreat
open Go.RowKit Go.Shelf
attribute [local go_sem] Oper.semAt_some
open Calmly (Kept)

/-- A slice of times, and what it reads. -/
abbrev Tm := (Option Addr × Nat × Nat) × List Int
abbrev encT (x : Tm) : Array Value := #[.slice x.1.1 x.1.2.1 x.1.2.2]
def PxT (L : List Nat) (m : Nat) (x : Tm) (W : World) : Prop := SI W x.1.1 x.1.2.1 x.1.2.2 x.2 ∧ (∀ b o, x.1.1 = some ⟨b, o, none⟩ → b ∉ L) ∧ x.2.length = m ∧ ∀ j : Nat, -2 ≤ x.2[j]?.getD 0 ∧ x.2[j]?.getD 0 ≤ 2
theorem app_bd {pre : List Int} {t : Int} (h : ∀ j : Nat, -2 ≤ pre[j]?.getD 0 ∧ pre[j]?.getD 0 ≤ 2) (h1 : -2 ≤ t) (h2 : t ≤ 2) : ∀ j : Nat, -2 ≤ (pre ++ [t])[j]?.getD 0 ∧ (pre ++ [t])[j]?.getD 0 ≤ 2 := by
  intro j
  rcases Nat.lt_or_ge j pre.length with hj | hj
  · rw [List.getElem?_append_left hj]
    exact h j
  · rw [List.getElem?_append_right hj]
    rcases Nat.eq_zero_or_pos (j - pre.length) with h0 | h0
    · rw [h0]
      exact ⟨h1, h2⟩
    · rw [List.getElem?_eq_none (by simp; omega)]
      simp
/-- What the recursion reads. -/
structure GrowEnv (m l bw by' bg : Nat) (W : World) : Prop where
  w : W.heap[bw]? = some (.cells #[.int .i64 (m : Int)] 3)
  y : W.heap[by']? = some (.cells #[.func (.yield l) #[] #[]] 128)
  g : W.heap[bg]? = some (.cells #[.func (.func 82) #[] #[.pointer (some ⟨bw, 0, none⟩), .pointer (some ⟨by', 0, none⟩), .pointer (some ⟨bg, 0, none⟩)]] 128)
theorem GrowEnv.keeps {m l bw by' bg : Nat} {L : List Nat} {W W' : World} (h : GrowEnv m l bw by' bg W) (k : Keeps L W W') (h1 : bw ∉ L) (h2 : by' ∉ L) (h3 : bg ∉ L) : GrowEnv m l bw by' bg W' := ⟨k.blk h1 h.w, k.blk h2 h.y, k.blk h3 h.g⟩
theorem GrowEnv.below {m l bw by' bg : Nat} {W W' : World} (h : GrowEnv m l bw by' bg W) (k : Below W.heap.size W W') : GrowEnv m l bw by' bg W' := ⟨blk_keep h.w k, blk_keep h.y k, blk_keep h.g k⟩
theorem grown_of_below' {w w' : World} (h : Below w.heap.size w w') : w.grownBy w' none := ⟨h.os, h.tape, h.output, h.size, fun k hk _ => h.block k hk⟩

theorem round_wide' {m m' : Nat} {P : Program} {l : Nat} {f : FuncId} {tmps : Array Value} {assign body : Code} {w : World} {R : Ending → World → Prop}
    (h : RoundIn Fence.wide m P l f tmps assign body w R) : RoundIn Fence.wide m' P l f tmps assign body w R := ⟨h.1, fun c cs _ => h.2 c cs (room_wide _)⟩

theorem mix_appG (i : Nat) {w0 : World} {k : Calmly.Plan} {dst : Option Tmp} {s x : Operand} {ty : TypeId} {pos : String} {after : Array Edge} {a : Act} {W0 : World} {ops : Array Oper} {Q : Exit → Act → World → Prop} {av : Option Addr} {n : Nat} {xs : List Int} {v : Int}
    (hi : ops[i]? = some ⟨dst, .call { callee := .builtin .append, args := #[s, x], argTypes := #[22, 22] }, ty, pos, after, none⟩)
    (hsi : SI w0 av n n xs) (hs : a.eval s = .slice av n n) (hx : a.eval x = .slice (some ⟨w0.heap.size, 0, none⟩) 1 1) (hb1 : n + 1 ≤ 17592186044416)
    (h : ∀ a' c' w', OwI w' w0.heap.size a' (n + 1) c' (xs ++ [v]) → Below w0.heap.size w0 w' → w0.heap.size < w'.heap.size → Kept W0 w' ∧ Calmly.WpMix Tryz.prog ops Q W0 k (a.put dst (.slice a' (n + 1) c')) w') :
    Calmly.WpMix Tryz.prog ops Q W0 (.eff i k) a (w0.alloc (.cells #[.int .i64 v] 3)) := by
  refine Calmly.mix_eff hi (fun K hK => ?_)
  obtain ⟨i0, hi0, hz0, hz1, hz2⟩ := info_parts Tryz.info_int
  have hb : Below w0.heap.size w0 (w0.alloc (.cells #[.int .i64 v] 3)) := (Below.refl _ _).alloc (Nat.le_refl _) _
  have hsi' := hsi.keep hb
  have fin : ∀ v' w1, w1.ownsRow (w0.alloc (.cells #[.int .i64 v] 3)).heap.size 3 1 v' (n + 1) (xs.map (Value.int .i64) ++ [Value.int .i64 v]) → (w0.alloc (.cells #[.int .i64 v] 3)).grownBy w1 none → K (a.put dst v') w1 := by
    intro v' w1 ho1 hg
    obtain ⟨a', c', rfl⟩ := owns_slice ho1
    have hsz := hg.size
    refine hK _ _ (h a' c' w1 ?_ (hb.trans (grown_below hg (by simp) (fun k hk => by cases hk))) (by simp at hsz; omega))
    have ho2 : w1.ownsRow w0.heap.size 3 1 (.slice a' (n + 1) c') (n + 1) ((xs ++ [v]).map (Value.int .i64)) := by
      obtain ⟨k1, k2⟩ := ho1
      refine ⟨by simpa using k1, ?_⟩
      rcases k2 with k2 | ⟨g, cap, cur, hv, hg', r⟩
      · exact .inl k2
      · exact .inr ⟨g, cap, cur, hv, by simp at hg'; omega, by simpa using r⟩
    exact ho2
  rcases av with _ | p
  · obtain ⟨rfl, _, rfl⟩ := hsi'.none_
    obtain ⟨v', w', hrun, r1, r2, _⟩ := run_append_own (P := Tryz.prog) (w0.alloc (.cells #[.int .i64 v] 3)) (w0.alloc (.cells #[.int .i64 v] 3)).heap.size 22 ty _ i0 (.int .i64 0) 1 8 Tryz.underlying22 hi0 hz0 hz1 hz2 rfl (by decide) (.slice none 0 0) 0 [] (World.ownsRow_nil _ _ _ 1) ⟨w0.heap.size, 0, none⟩ 1 1 [Value.int .i64 v] rfl (cells_new w0 _ _) (by simp [Value.oneCell']) (by unfold maxLen; omega) (by omega) (Nat.le_refl _)
    unfold Oper.wp
    simp [execOp, resolve, invoke, builtin, hs, hx, hrun, Result.andThen]
    exact fin v' w' r1 r2
  · obtain ⟨h1, h2, h3, h4⟩ := hsi'
    obtain ⟨v', w', hrun, r1, r2⟩ := run_append_arg_grows (P := Tryz.prog) (w0.alloc (.cells #[.int .i64 v] 3)) 22 ty _ i0 (.int .i64 0) 1 8 Tryz.underlying22 hi0 hz0 hz1 hz2 rfl (by decide) p n n (xs.map (Value.int .i64)) h1 (fun j u hj => by
      have hjl : j < (xs.map (Value.int .i64)).length := (List.getElem?_eq_some_iff.1 hj).1
      rcases h4 with h4 | ⟨b', off, hp, hcell⟩
      · omega
      cases hp
      rw [Addr.add_lit, hcell j (by omega)]
      exact hj) ⟨w0.heap.size, 0, none⟩ 1 1 [Value.int .i64 v] rfl (cells_new w0 _ _) (by omega) (by unfold maxLen; omega) (by omega)
    unfold Oper.wp
    simp [execOp, resolve, invoke, builtin, hs, hx, hrun, Result.andThen]
    exact fin v' w' r1 r2
theorem SI.clip {w : World} {a : Option Addr} {n c : Nat} {xs : List Int} (h : SI w a n c xs) : SI w a n n xs := by
  obtain ⟨h1, h2, h3, h4⟩ := h
  refine ⟨h1, Nat.le_refl _, by omega, ?_⟩
  rcases h4 with rfl | h4
  · exact .inl (by omega)
  · exact .inr h4
/-- The first numbers of the five. -/
theorem five_take (j : Nat) (h : j < 5) : five.take (j + 1) = five.take j ++ [(j : Int) - 2] := by
  have : j = 0 ∨ j = 1 ∨ j = 2 ∨ j = 3 ∨ j = 4 := by omega
  rcases this with rfl | rfl | rfl | rfl | rfl <;> rfl

set_option maxRecDepth 100000 in
set_option maxHeartbeats 2000000 in
theorem grow_call (l : Nat) (L : List Nat) (m bw by' bg B BJ ky : Nat) (J : List Tm → World → Prop) (h1 : bw ∉ L) (h2 : by' ∉ L) (h3 : bg ∉ L) (hL : ∀ b, b ∈ L → b < B) (hm : m ≤ 1000)
    (hY : ∀ pre x W1, J pre W1 → PxT L m x W1 → YieldAt Fence.wide ky Tryz.prog l (encT x) W1 fun e W' => e = .returned (.bool true) ∧ J (pre ++ [x]) W' ∧ Keeps L W1 W') (hJ : AbidesFrom BJ J) (k : Nat) :
    ∀ (pre : List Int) (done : List Tm) (W : World) (a : Option Addr) (n c : Nat), pre.length + k = m → (∀ j : Nat, -2 ≤ pre[j]?.getD 0 ∧ pre[j]?.getD 0 ≤ 2) → OwI W B a n c pre → B ≤ W.heap.size → GrowEnv m l bw by' bg W → J done W →
      Calls Tryz.prog 82 #[.slice a n c, .pointer (some ⟨bw, 0, none⟩), .pointer (some ⟨by', 0, none⟩), .pointer (some ⟨bg, 0, none⟩)] W fun e W' =>
        e = .returned (.bool true) ∧ (∃ xs : List Tm, xs.map (·.2) = genC pre k ∧ J (done ++ xs) W') ∧ Keeps L W W' := by
  have HY := Lib.hid hY
  have HJ := Lib.hid hJ
  have HL := Lib.hid hL
  clear hY hJ hL
  induction k with
  | zero =>
    intro pre done W a n c hl hp hown hB henv hJd
    have hn := hown.len
    obtain ⟨q1, q2⟩ : n ≤ m ∧ m ≤ n := by omega
    have hq : ((n : Int) == (m : Int)) = true := by simp; omega
    have f1 := cell_block henv.w 0
    have f2 := cell_block henv.y 0
    have m1 := hown.si.max
    have c1 := hown.si.cap
    obtain ⟨fn, tmps, assign, body, hy, hR⟩ := HY.out done ((a, n, c), pre) W hJd ⟨hown.si, fun b o hb hm => by have := hown.ge b o hb; have := HL.out b hm; omega, by omega, hp⟩
    have hg : genC pre 0 = [pre] := genC_zero pre
    have HG := Lib.hid hg
    dsimp only [encT] at hy
    clear hn hl hg hp
    refine (callsIn_wide (n := 5)).1 ?_
    refine callsIn_of_wp Tryz.func82 rfl trivial ?_ rfl
    simp only [Tryz.ntmps82, List.size_toArray, List.length_cons, List.length_nil, Nat.reduceAdd, Nat.reduceSub, Array.replicate_succ, Array.replicate_zero, List.push_toArray, List.append_toArray, List.nil_append, List.cons_append]
    gi_wp2
    refine (round_wide' hR).mono ?_
    rintro e W5 ⟨rfl, hJ5, hk5⟩
    gi_wp2
    go_ret
    exact ⟨rfl, ⟨[((a, n, c), pre)], by rw [HG.out]; rfl, hJ5⟩, hk5⟩
  | succ k ih =>
    intro pre done W a n c hl hp hown hB henv hJd
    have hn := hown.len
    have hnm : n < m := by omega
    have hq : ((n : Int) == (m : Int)) = false := by simp; omega
    have f1 := cell_block henv.w 0
    have IH := Lib.hid ih
    have HP := Lib.hid hp
    have HN := Lib.hid hn
    have hl2 : pre.length + 1 + k = m := by omega
    clear ih hn hl hp
    go_enter Tryz.func82, Tryz.ntmps82
    go_wp2_with fail
    go_loopw [6] (fun i wr => ∃ j : Nat, j ≤ 5 ∧ i = .int .i64 ((j : Int) - 2) ∧ (∃ xs : List Tm, xs.map (·.2) = (five.take j).flatMap (fun t => genC (pre ++ [t]) k) ∧ J (done ++ xs) wr) ∧ Keeps L W wr) (fun i _ => 5 - (intOf i + 2).toNat)
    case atStart => exact ⟨0, by omega, rfl, ⟨[], rfl, by simpa using hJd⟩, Keeps.refl _ _⟩
    case round =>
      clear hJd
      obtain ⟨j, hj, rfl, ⟨xs, hxs, hJx⟩, hkp⟩ := hrel
      have hrs := hkp.size
      have HXS := Lib.hid hxs
      clear hxs
      have ow := hown.keeps hkp HL.out
      have ev := henv.keeps hkp h1 h2 h3
      have m1 := ow.si.max
      have c1 := ow.si.cap
      by_cases hlt : j < 5
      · have hi : (j : Int) - 2 ≤ 2 := by omega
        have g3 := cell_block ev.g 0
        have hft := five_take j hlt
        have HFT := Lib.hid hft
        clear hft
        go_wp2_with fail
        refine Calmly.wp_region_mix 6 (.fl 0 <| .fl 1 <| .fl 3 <| .alt 2 (.eff 4 <| .eff 5 <| .tail [6, 7]) (.eff 4 (.eff 2 <| .eff 5 <| .tail [6, 7]))) (by kernel_rfl) (by kernel_rfl) ?_
        have BV : Below wr.heap.size wr wr.drew := (Below.refl _ _).drew
        generalize wr.drew = V at BV ⊢
        have kv := hkp.trans (Keeps.of_below BV)
        have hJv := HJ.out _ wr V none hJx (grown_of_below' BV) (fun r e => by cases e)
        have siV := ow.si.keep BV
        have evV := ev.below BV
        have hBV : B ≤ V.heap.size := by have := BV.size; omega
        have g4 := cell_keep g3 BV
        have hn1 : n + 1 ≤ 17592186044416 := by omega
        clear hJx
        have hk := Below.refl V.heap.size V
        go_wp2_with (first | (refine mix_appG 5 (xs := pre) (v := (j : Int) - 2) rfl siV.clip rfl rfl hn1 (fun a2 c2 w6 ho6 hb6 hs6 => ?_); replace hk := hb6; refine ⟨kept_of hk, ?_⟩) | ((with_reducible refine Calmly.is_fl ?_); refine Calmly.mix_fl rfl ?_ (fun _ _ => ?_); (first | exact .move _ | exact .load _ _ | exact .fieldAddr _ _ _ (by kernel_rfl) | exact .assign _ | exact .binOp _ _ _ _ _ rfl | exact .indexAddr _ _ _ | exact .len _ _ (by kernel_rfl) | exact .field _ _ _ | exact .extract _ _ | exact .pick _ _ _ | exact .build _ _ | exact .slice _ _ _ _ _ | exact .unOp _ _ _ rfl | exact .index _ _ _ | exact .max _ _ _ rfl rfl | exact .min _ _ _ rfl rfl)) | ((with_reducible refine Calmly.is_gl ?_); refine Calmly.mix_gl rfl rfl rfl ?_; first | ((first | with_reducible refine Calmly.gl_tt ?_ (fun _ _ => ?_) | with_reducible refine Calmly.gl_ff ?_ (fun _ _ => ?_)); (first | exact .move _ | exact .load _ _ | exact .fieldAddr _ _ _ (by kernel_rfl) | exact .assign _ | exact .binOp _ _ _ _ _ rfl | exact .indexAddr _ _ _ | exact .len _ _ (by kernel_rfl) | exact .field _ _ _ | exact .extract _ _ | exact .pick _ _ _ | exact .build _ _ | exact .slice _ _ _ _ _ | exact .unOp _ _ _ rfl | exact .index _ _ _ | exact .max _ _ _ rfl rfl | exact .min _ _ _ rfl rfl)) | with_reducible refine Calmly.gl_tf (fun _ _ => ?_) | with_reducible refine Calmly.gl_ft (fun _ _ => ?_)) | ((with_reducible refine Calmly.is_eff ?_); refine Calmly.mix_eff rfl (fun _ _ => ?_)) | ((with_reducible refine Calmly.is_gf ?_); refine Calmly.mix_gf rfl rfl rfl ?_; first | with_reducible refine Calmly.gf_tt (fun _ _ => ?_) | with_reducible refine Calmly.gf_ff (fun _ _ => ?_) | with_reducible refine Calmly.gf_tf (kept_of hk) (fun _ _ => ?_) | with_reducible refine Calmly.gf_ft (kept_of hk) (fun _ _ => ?_)) | ((with_reducible refine Calmly.is_tail ?_); first | refine Calmly.mix_tail_nil ?_ | refine Calmly.mix_tail rfl (fun _ _ => ?_)) | ((with_reducible refine Calmly.is_kept ?_); refine ⟨kept_of hk, ?_⟩) | (with_reducible refine Calmly.mix_alt ?_ ?_) | (refine kept_alloc hk (fun hk' hblk hge => ?_); replace hk := hk'; clear hk') | (go_at_call 83; refine (clip_any a n c pre _ (SI.keep (w := V) siV hk)).mono ?_; rintro e w1 ⟨rfl, rfl⟩))
        all_goals
          have hJ6 := HJ.out _ V w6 none hJv (grown_of_below' hk) (fun r e => by cases e)
          refine (IH.out (pre ++ [(j : Int) - 2]) (done ++ xs) w6 a2 (n + 1) c2 (by simp; omega) (app_bd HP.out (by omega) hi) (ho6.weak hBV) (by omega) (evV.below hk) hJ6).mono ?_
          rintro e w7 ⟨rfl, ⟨ys, hys, hJ7⟩, hk7⟩
          go_wp2_with (first | ((with_reducible refine Calmly.is_fl ?_); refine Calmly.mix_fl rfl ?_ (fun _ _ => ?_); (first | exact .move _ | exact .load _ _ | exact .fieldAddr _ _ _ (by kernel_rfl) | exact .assign _ | exact .binOp _ _ _ _ _ rfl | exact .indexAddr _ _ _ | exact .len _ _ (by kernel_rfl) | exact .field _ _ _ | exact .extract _ _ | exact .pick _ _ _ | exact .build _ _ | exact .slice _ _ _ _ _ | exact .unOp _ _ _ rfl | exact .index _ _ _ | exact .max _ _ _ rfl rfl | exact .min _ _ _ rfl rfl)) | ((with_reducible refine Calmly.is_gl ?_); refine Calmly.mix_gl rfl rfl rfl ?_; first | ((first | with_reducible refine Calmly.gl_tt ?_ (fun _ _ => ?_) | with_reducible refine Calmly.gl_ff ?_ (fun _ _ => ?_)); (first | exact .move _ | exact .load _ _ | exact .fieldAddr _ _ _ (by kernel_rfl) | exact .assign _ | exact .binOp _ _ _ _ _ rfl | exact .indexAddr _ _ _ | exact .len _ _ (by kernel_rfl) | exact .field _ _ _ | exact .extract _ _ | exact .pick _ _ _ | exact .build _ _ | exact .slice _ _ _ _ _ | exact .unOp _ _ _ rfl | exact .index _ _ _ | exact .max _ _ _ rfl rfl | exact .min _ _ _ rfl rfl)) | with_reducible refine Calmly.gl_tf (fun _ _ => ?_) | with_reducible refine Calmly.gl_ft (fun _ _ => ?_)) | ((with_reducible refine Calmly.is_eff ?_); refine Calmly.mix_eff rfl (fun _ _ => ?_)) | ((with_reducible refine Calmly.is_gf ?_); refine Calmly.mix_gf rfl rfl rfl ?_; first | with_reducible refine Calmly.gf_tt (fun _ _ => ?_) | with_reducible refine Calmly.gf_ff (fun _ _ => ?_) | with_reducible refine Calmly.gf_tf (kept_of hk) (fun _ _ => ?_) | with_reducible refine Calmly.gf_ft (kept_of hk) (fun _ _ => ?_)) | ((with_reducible refine Calmly.is_tail ?_); first | refine Calmly.mix_tail_nil ?_ | refine Calmly.mix_tail rfl (fun _ _ => ?_)) | ((with_reducible refine Calmly.is_kept ?_); refine ⟨kept_of hk, ?_⟩) | (with_reducible refine Calmly.mix_alt ?_ ?_))
          go_roundw
          case rel => exact ⟨j + 1, by omega, by go_num, ⟨xs ++ ys, by rw [HFT.out, List.flatMap_append, List.map_append, HXS.out, hys]; simp, by rw [← List.append_assoc]; exact hJ7⟩, (kv.trans (Keeps.of_below hk)).trans hk7⟩
          case measure => simp [intOf]; omega
      · have hi : (2 : Int) < (j : Int) - 2 := by omega
        obtain rfl : j = 5 := by omega
        go_wp2_with fail
        go_ret
        refine ⟨rfl, ⟨xs, ?_, hJx⟩, hkp⟩
        rw [HXS.out, genC_succ]
        rfl
end Go.Proofs.YtfjcfbmfpefabaaGreat

namespace Go.Proofs.YtfjcfbmfpefabaaGreat
open Go.RowKit
open Calmly (Kept)

theorem prices_bd {xs : List Int} (h : ∀ j : Nat, -1000 ≤ xs[j]?.getD 0 ∧ xs[j]?.getD 0 ≤ 1000) (hn : xs.length ≤ 24) :
    (-24000 ≤ sumT xs xs.length ∧ sumT xs xs.length ≤ 24000) ∧ (-576000 ≤ sumT (sumsF xs) xs.length ∧ sumT (sumsF xs) xs.length ≤ 576000) := by
  have h1 := sumT_bd h xs.length
  have h2 : ∀ j : Nat, -24000 ≤ (sumsF xs)[j]?.getD 0 ∧ (sumsF xs)[j]?.getD 0 ≤ 24000 := by
    intro j
    rcases Nat.lt_or_ge j xs.length with hj | hj
    · rw [sumsF_get xs j hj]
      have := sumT_bd h (j + 1)
      omega
    · rw [List.getElem?_eq_none (by rw [sumsF_len]; exact hj)]
      simp
  have h3 := sumT_bd h2 xs.length
  omega
theorem prVD_bd {xs : List Int} (h : ∀ j : Nat, -1000 ≤ xs[j]?.getD 0 ∧ xs[j]?.getD 0 ≤ 1000) (hn : xs.length ≤ 24) :
    (-300000000 ≤ prV xs ∧ prV xs ≤ 300000000) ∧ (-30000000 ≤ prD xs ∧ prD xs ≤ 30000000) := by
  obtain ⟨h1, h2⟩ := prices_bd h hn
  have h3 := mom_bd xs.length hn
  have p1 := pr_bd (c := sumT (sumsF xs) xs.length) (a := momT xs.length) (C := 576000) (A := 300) h2.1 h2.2 (by omega) (by omega)
  have p2 := pr_bd (c := sumT xs xs.length) (a := sqrT xs.length) (C := 24000) (A := 4900) h1.1 h1.2 (by omega) (by omega)
  have p3 := pr_bd (c := sumT xs xs.length) (a := momT xs.length) (C := 24000) (A := 300) h1.1 h1.2 (by omega) (by omega)
  have p4 := pr_bd (c := sumT (sumsF xs) xs.length) (a := (xs.length : Int)) (C := 576000) (A := 24) h2.1 h2.2 (by omega) (by omega)
  unfold prV prD
  omega

set_option maxRecDepth 100000 in
set_option maxHeartbeats 1000000 in
theorem lowestP_any (d v u : Int) (w : World) (hd : 1 ≤ d) (hd2 : d ≤ 9000000000000000000) (hv : -9000000000000000000 ≤ v ∧ v ≤ 9000000000000000000) (hu : -9000000000000000000 ≤ u ∧ u ≤ 9000000000000000000) (D V U : Int) (hD : d.tdiv (gcds [d, v, u] : Nat) = D) (hV : v.tdiv (gcds [d, v, u] : Nat) = V) (hU : u.tdiv (gcds [d, v, u] : Nat) = U) :
    Calls Tryz.prog 33 #[.agg #[.int .i64 d, .int .i64 v, .int .i64 u]] w fun e w' => e = .returned (.agg #[.int .i64 D, .int .i64 V, .int .i64 U]) ∧ Below w.heap.size w w' := by
  have hb2 : Below w.heap.size w ((w.alloc (.cells #[.int .i64 d, .int .i64 v, .int .i64 u] 28)).alloc (.cells #[.int .i64 0, .int .i64 0, .int .i64 0] 28)) := ((Below.refl _ _).alloc (Nat.le_refl _) _).alloc (by simp) _
  have x1 := box1 (w := w) (o := .cells #[.int .i64 d, .int .i64 v, .int .i64 u] 28) (W := w.alloc (.cells #[.int .i64 d, .int .i64 v, .int .i64 u] 28)) (Below.alloc (Below.refl _ _) (Nat.le_refl _) (.cells #[.int .i64 0, .int .i64 0, .int .i64 0] 28))
  have x2 := alloc_new (w.alloc (.cells #[.int .i64 d, .int .i64 v, .int .i64 u] 28)) (.cells #[.int .i64 0, .int .i64 0, .int .i64 0] 28)
  simp only [World.size_alloc] at x2
  obtain ⟨hv1, hv2⟩ := hv
  obtain ⟨hu1, hu2⟩ := hu
  have hgp : 0 < gcds [d, v, u] := gcds_pos (p := d) (by simp) (by omega)
  obtain ⟨g, hg⟩ : ∃ g : Nat, gcds [d, v, u] = g := ⟨_, rfl⟩
  have hgd : (g : Int) ∣ d := by rw [← hg]; exact gcds_dvd_mem (by simp)
  have hg2 : (g : Int) ≤ d := Int.le_of_dvd (by omega) hgd
  rw [hg] at hgp hD hV hU
  have HG := Lib.hid hg
  have HD := Lib.hid hD
  have HV := Lib.hid hV
  have HU := Lib.hid hU
  clear hD hV hU hgd hg
  go_enter Tryz.func33, Tryz.ntmps33
  go_wp2_with fail
  obtain ⟨W, hW⟩ : ∃ W, (w.alloc (.cells #[.int .i64 d, .int .i64 v, .int .i64 u] 28)).alloc (.cells #[.int .i64 0, .int .i64 0, .int .i64 0] 28) = W := ⟨_, rfl⟩
  have hWs : w.heap.size + 1 + 1 = W.heap.size := by rw [← hW]; simp
  rw [hW] at hb2 x1 x2 ⊢
  clear hW
  refine (nDivisor_any _ 3 3 [d, v, u] _ (SI.three _ _ _ _ _ hWs) (by intro x hx; simp at hx; omega)).mono ?_
  rintro e w1 ⟨rfl, q, rfl⟩
  rw [HG.out]
  have hW2 : Below W.heap.size W ((W.alloc (.cells #[.int .i64 d, .int .i64 v, .int .i64 u] 3)).drewN q) := below_drewN ((Below.refl _ _).alloc (Nat.le_refl _) _) q
  generalize World.drewN _ q = W2 at hW2 ⊢
  have BW := hb2.trans (hW2.mono hb2.size)
  replace x1 := blk_keep x1 hW2
  replace x2 := blk_keep x2 hW2
  clear hb2 hW2
  have f0 := cell_block x1 0
  have f1 := cell_block x1 1
  have f2 := cell_block x1 2
  have hg0 : ((g : Int) == 0) = false := by rw [beq_eq_false_iff_ne]; omega
  have hg1 : (g : Int) ≠ 0 := by omega
  have hlt := blk_lt x2
  go_wp2_with fail
  refine Calmly.wp_region_mix 12 (.fl 0 <| .fl 1 <| .fl 2 <| .fl 3 <| .fl 4 <| .fl 5 <| .fl 6 <| .fl 7 <| .fl 8 <| .fl 9 <| .fl 10 <| .fl 11 <| .tail [12, 13]) (by kernel_rfl) (by kernel_rfl) ?_
  replace BW := BW.drew
  replace x1 := blk_keep x1 (Below.refl _ _).drew
  replace x2 := blk_keep x2 (Below.refl _ _).drew
  clear f0 f1 f2
  generalize World.drew _ = V2 at x1 x2 BW ⊢
  have f0 := cell_block x1 0
  have f1 := cell_block x1 1
  have f2 := cell_block x1 2
  have g0 := cell_block x2 0
  have g1 := cell_block x2 1
  have g2 := cell_block x2 2
  have g3 := frozen_block x2 0
  have g4 := frozen_block x2 1
  have g5 := frozen_block x2 2
  have hk := Below.refl V2.heap.size V2
  go_wp2_with (first | ((with_reducible refine Calmly.is_fl ?_); refine Calmly.mix_fl rfl ?_ (fun _ _ => ?_); (first | exact .move _ | exact .load _ _ | exact .fieldAddr _ _ _ (by kernel_rfl) | exact .assign _ | exact .binOp _ _ _ _ _ rfl | exact .indexAddr _ _ _ | exact .len _ _ (by kernel_rfl) | exact .field _ _ _ | exact .extract _ _ | exact .pick _ _ _ | exact .build _ _ | exact .slice _ _ _ _ _ | exact .unOp _ _ _ rfl | exact .index _ _ _ | exact .max _ _ _ rfl rfl | exact .min _ _ _ rfl rfl)) | ((with_reducible refine Calmly.is_gl ?_); refine Calmly.mix_gl rfl rfl rfl ?_; first | ((first | with_reducible refine Calmly.gl_tt ?_ (fun _ _ => ?_) | with_reducible refine Calmly.gl_ff ?_ (fun _ _ => ?_)); (first | exact .move _ | exact .load _ _ | exact .fieldAddr _ _ _ (by kernel_rfl) | exact .assign _ | exact .binOp _ _ _ _ _ rfl | exact .indexAddr _ _ _ | exact .len _ _ (by kernel_rfl) | exact .field _ _ _ | exact .extract _ _ | exact .pick _ _ _ | exact .build _ _ | exact .slice _ _ _ _ _ | exact .unOp _ _ _ rfl | exact .index _ _ _ | exact .max _ _ _ rfl rfl | exact .min _ _ _ rfl rfl)) | with_reducible refine Calmly.gl_tf (fun _ _ => ?_) | with_reducible refine Calmly.gl_ft (fun _ _ => ?_)) | ((with_reducible refine Calmly.is_eff ?_); refine Calmly.mix_eff rfl (fun _ _ => ?_)) | ((with_reducible refine Calmly.is_gf ?_); refine Calmly.mix_gf rfl rfl rfl ?_; first | with_reducible refine Calmly.gf_tt (fun _ _ => ?_) | with_reducible refine Calmly.gf_ff (fun _ _ => ?_) | with_reducible refine Calmly.gf_tf (kept_of hk) (fun _ _ => ?_) | with_reducible refine Calmly.gf_ft (kept_of hk) (fun _ _ => ?_)) | ((with_reducible refine Calmly.is_tail ?_); first | refine Calmly.mix_tail_nil ?_ | refine Calmly.mix_tail rfl (fun _ _ => ?_)) | ((with_reducible refine Calmly.is_kept ?_); refine ⟨kept_of hk, ?_⟩) | (with_reducible refine Calmly.mix_alt ?_ ?_))
  have e1 : d / (g : Int) = D := by rw [← HD.out, Int.tdiv_eq_ediv_of_nonneg (by omega)]
  rw [e1, HV.out, HU.out]
  obtain ⟨s1, s2, s3⟩ := set3 (x := .int .i64 D) (y := .int .i64 V) (z := .int .i64 U) x2
  refine bodyPost_ret (v := .agg #[.int .i64 D, .int .i64 V, .int .i64 U]) (by simp [results, Tryz.results33, go_sem, s1, s2, s3]) rfl ⟨rfl, ?_⟩
  exact ((BW.setCell (by simp) _).setCell (by simp) _).setCell (by simp) _

set_option maxHeartbeats 400000 in
theorem change_any (d v u t k : Int) (w : World) (hv : -2000000000000 ≤ v ∧ v ≤ 2000000000000) (hu : -2000000000000 ≤ u ∧ u ≤ 2000000000000) (ht : 0 ≤ t ∧ t ≤ 1000) (hk : 0 ≤ k ∧ k ≤ 1000) (R : Int) (hR : v + u * (t - k) = R) :
    Calls Tryz.prog 23 #[.agg #[.int .i64 d, .int .i64 v, .int .i64 u], .int .i64 t, .int .i64 k] w fun e w' => e = .returned (.int .i64 R) ∧ Below w.heap.size w w' := by
  obtain ⟨hv1, hv2⟩ := hv
  obtain ⟨p1, p2⟩ := pr_bd (c := u) (a := t - k) (C := 2000000000000) (A := 1000) hu.1 hu.2 (by omega) (by omega)
  obtain ⟨ht1, ht2⟩ := ht
  obtain ⟨hk1, hk2⟩ := hk
  have HR := Lib.hid hR
  clear hR
  go_enter Tryz.func23, Tryz.ntmps23
  go_wp2_with fail
  go_ret
  exact ⟨ret_int HR.out, (Below.refl _ _).alloc (Nat.le_refl _) _⟩

set_option maxRecDepth 100000 in
set_option maxHeartbeats 1000000 in
theorem price_any (a : Option Addr) (n c : Nat) (xs : List Int) (w : World) (h1 : SI w a n c xs) (hn0 : 2 ≤ n) (hn : n ≤ 24) (hb : ∀ j : Nat, -1000 ≤ xs[j]?.getD 0 ∧ xs[j]?.getD 0 ≤ 1000) (D V U : Int) (hD : prDen xs = D) (hV : prVel xs = V) (hU : prDis xs = U) :
    Calls Tryz.prog 22 #[.slice a n c] w fun e w' => e = .returned (.agg #[.int .i64 D, .int .i64 V, .int .i64 U]) ∧ Below w.heap.size w w' := by
  obtain ⟨l1, l2⟩ : n ≤ xs.length ∧ xs.length ≤ n := by have := h1.len; omega
  have m1 := h1.max
  have c1 := h1.cap
  have hlen : xs.length = n := by omega
  have hp := prices_bd hb (by omega)
  have hq := prVD_bd hb (by omega)
  have hd := denR_bd n hn0 hn
  obtain ⟨sv, hsv⟩ : ∃ s, sumT xs n = s := ⟨_, rfl⟩
  obtain ⟨sd, hsd⟩ : ∃ s, sumT (sumsF xs) n = s := ⟨_, rfl⟩
  have e1 : prV xs = sd * momT n - sv * sqrT n := by unfold prV; rw [hlen, hsv, hsd]
  have e2 : prD xs = sv * momT n - sd * (n : Int) := by unfold prD; rw [hlen, hsv, hsd]
  have e3 : denR xs.length = (n : Int) * sqrT n - momT n * momT n := by rw [hlen]; rfl
  have hm := mom_bd n hn
  obtain ⟨M, hM⟩ : ∃ M, momT n = M := ⟨_, rfl⟩
  obtain ⟨S, hS⟩ : ∃ S, sqrT n = S := ⟨_, rfl⟩
  unfold prDen prG at hD
  unfold prVel prG at hV
  unfold prDis prG at hU
  have e4 : denR n = (n : Int) * S - M * M := by rw [← hM, ← hS]; rfl
  rw [e1, e2, e3, hM, hS] at hD hV hU
  rw [e1, e2, hM, hS] at hq
  rw [e4] at hd
  rw [hlen, hsv, hsd] at hp
  rw [hM, hS] at hm
  obtain ⟨⟨p1, p2⟩, p3, p4⟩ := hp
  obtain ⟨⟨q1, q2⟩, q3, q4⟩ := hq
  obtain ⟨d1, d2⟩ := hd
  obtain ⟨m3, m4, m5, m6⟩ := hm
  obtain ⟨r1, r2⟩ := pr_bd (c := sd) (a := M) (C := 576000) (A := 300) p3 p4 (by omega) (by omega)
  obtain ⟨r3, r4⟩ := pr_bd (c := sv) (a := S) (C := 24000) (A := 4900) p1 p2 (by omega) (by omega)
  obtain ⟨r5, r6⟩ := pr_bd (c := sv) (a := M) (C := 24000) (A := 300) p1 p2 (by omega) (by omega)
  obtain ⟨r7, r8⟩ := pr_bd (c := sd) (a := (n : Int)) (C := 576000) (A := 24) p3 p4 (by omega) (by omega)
  obtain ⟨r9, r10⟩ := pr_bd (c := (n : Int)) (a := S) (C := 24) (A := 4900) (by omega) (by omega) (by omega) (by omega)
  obtain ⟨r11, r12⟩ := pr_bd (c := M) (a := M) (C := 300) (A := 300) (by omega) (by omega) (by omega) (by omega)
  have HB := Lib.hid hb
  have HM := Lib.hid hM
  have HS := Lib.hid hS
  have HSV := Lib.hid hsv
  have HSD := Lib.hid hsd
  have HD := Lib.hid hD
  have HV := Lib.hid hV
  have HU := Lib.hid hU
  have HMB : Hid (∀ k, k ≤ 24 → 0 ≤ momT k ∧ momT k ≤ 300 ∧ 0 ≤ sqrT k ∧ sqrT k ≤ 4900) := Lib.hid mom_bd
  clear hb hM hS hsv hsd hD hV hU e1 e2 e3 e4 hlen
  have hA : ∀ (A : World) (o : Obj), Below A.heap.size A (A.alloc o) := fun A o => (Below.refl _ _).alloc (Nat.le_refl _) _
  have B0 := hA w (.cells #[.int .i64 0, .int .i64 0, .int .i64 0] 28)
  have x0 := alloc_new w (.cells #[.int .i64 0, .int .i64 0, .int .i64 0] 28)
  go_enter Tryz.func22, Tryz.ntmps22
  go_wp2_with fail
  obtain ⟨W, hW⟩ : ∃ W, w.alloc (.cells #[.int .i64 0, .int .i64 0, .int .i64 0] 28) = W := ⟨_, rfl⟩
  rw [hW] at B0 x0 ⊢
  clear hW
  go_loop [4, 5, 6] (fun m s k => ∃ j : Nat, j ≤ n ∧ k = .int .i64 ((j : Int) + 1) ∧ m = .int .i64 (momT j) ∧ s = .int .i64 (sqrT j)) (fun _ _ k => n + 1 - (intOf k).toNat)
  case atStart => exact ⟨0, by omega, rfl, rfl, rfl⟩
  case round =>
    obtain ⟨j, hj, rfl, rfl, rfl⟩ := hrel
    obtain ⟨b1, b2, b3, b4⟩ := HMB.out j (by omega)
    by_cases hlt : j < n
    · have hs1 : momT (j + 1) = momT j + ((j : Int) + 1) := rfl
      have hs2 : sqrT (j + 1) = sqrT j + ((j : Int) + 1) * ((j : Int) + 1) := rfl
      obtain ⟨mj, hmj⟩ : ∃ x, momT j = x := ⟨_, rfl⟩
      obtain ⟨sj, hsj⟩ : ∃ x, sqrT j = x := ⟨_, rfl⟩
      rw [hmj] at hs1 b1 b2 ⊢
      rw [hsj] at hs2 b3 b4 ⊢
      have HS1 := Lib.hid hs1
      have HS2 := Lib.hid hs2
      clear hs1 hs2 hmj hsj
      obtain ⟨v1, v2⟩ := pr_bd (c := (j : Int) + 1) (a := (j : Int) + 1) (C := 24) (A := 24) (by omega) (by omega) (by omega) (by omega)
      have hi : (j : Int) + 1 ≤ (n : Int) := by omega
      go_wp2_with fail
      go_round
      case rel => exact ⟨j + 1, by omega, by go_num, by rw [HS1.out], by rw [HS2.out]⟩
      case measure => simp [intOf]; omega
    · have hle : (n : Int) < (j : Int) + 1 := by omega
      obtain rfl : j = n := by omega
      rw [HM.out, HS.out]
      go_wp2_with fail
      refine (end_any a j c xs _ (h1.keep B0) (by omega) (by omega) HB.out sv sd HSV.out HSD.out).mono ?_
      rintro e w1 ⟨rfl, hs⟩
      have x1 := blk_keep (blk_keep x0 hs) (hA w1 (.cells #[.int .i64 sv, .int .i64 sd] 71))
      have x2 := alloc_new w1 (.cells #[.int .i64 sv, .int .i64 sd] 71)
      have B1 := B0.trans (hs.mono B0.size)
      have B2 := B1.trans ((hA w1 (.cells #[.int .i64 sv, .int .i64 sd] 71)).mono B1.size)
      go_wp2_with fail
      refine (lowestP_any _ _ _ _ d1 (by omega) ⟨by omega, by omega⟩ ⟨by omega, by omega⟩ D V U HD.out HV.out HU.out).mono ?_
      rintro e w2 ⟨rfl, hs2⟩
      replace x1 := blk_keep x1 hs2
      replace B2 := B2.trans (hs2.mono B2.size)
      have g0 := cell_block x1 0
      have g1 := cell_block x1 1
      have g2 := cell_block x1 2
      have g3 := frozen_block x1 0
      have g4 := frozen_block x1 1
      have g5 := frozen_block x1 2
      go_wp2_with fail
      obtain ⟨s1, s2, s3⟩ := set3 (x := .int .i64 D) (y := .int .i64 V) (z := .int .i64 U) x1
      refine bodyPost_ret (v := .agg #[.int .i64 D, .int .i64 V, .int .i64 U]) (by simp [results, Tryz.results22, go_sem, s1, s2, s3]) rfl ⟨rfl, ?_⟩
      exact ((B2.setCell (by simp) _).setCell (by simp) _).setCell (by simp) _

set_option maxRecDepth 100000 in
set_option maxHeartbeats 1000000 in
theorem reduced_any (den : Int) (a : Option Addr) (n c : Nat) (ps : List Int) (w : World) (h1 : SI w a n c ps) (hn : n ≤ 1000000) (hd : 1 ≤ den) (hd2 : den ≤ 9000000000000000000) (hb : ∀ x ∈ ps, -9000000000000000000 ≤ x ∧ x ≤ 9000000000000000000) (D : Int) (P : List Int) (hD : den.tdiv (rdG den ps) = D) (hP : ps.map (fun p => p.tdiv (rdG den ps)) = P) :
    Calls Tryz.prog 24 #[.int .i64 den, .slice a n c] w fun e w' => ∃ a' c', e = .returned (.tuple #[.int .i64 D, .slice a' n c']) ∧ OwI w' w.heap.size a' n c' P ∧ Below w.heap.size w w' := by
  obtain ⟨l1, l2⟩ : n ≤ ps.length ∧ ps.length ≤ n := by have := h1.len; omega
  have m1 := h1.max
  have c1 := h1.cap
  have hgp : 0 < gcds (den :: ps) := gcds_pos (p := den) (by simp) (by omega)
  have hrg : rdG den ps = ((gcds (den :: ps) : Nat) : Int) := rfl
  obtain ⟨g, hg⟩ : ∃ g : Nat, gcds (den :: ps) = g := ⟨_, rfl⟩
  have hgd : (g : Int) ∣ den := by rw [← hg]; exact gcds_dvd_mem (by simp)
  have hg2 : (g : Int) ≤ den := Int.le_of_dvd (by omega) hgd
  rw [hrg, hg] at hD hP
  rw [hg] at hgp
  have hg0 : ((g : Int) == 0) = false := by rw [beq_eq_false_iff_ne]; omega
  have hg1 : (g : Int) ≠ 0 := by omega
  have HG := Lib.hid hg
  have HD := Lib.hid hD
  have HP := Lib.hid hP
  have HB := Lib.hid hb
  clear hg hD hP hb hrg hgd
  have hA : ∀ (A : World) (o : Obj), Below A.heap.size A (A.alloc o) := fun A o => (Below.refl _ _).alloc (Nat.le_refl _) _
  go_enter Tryz.func24, Tryz.ntmps24
  go_wp2_with (at_builtin; refine appL rfl _ _ rfl (OwI.one w (Nat.le_refl _) den) (h1.keep (hA _ _)) rfl rfl (by omega) (by simp) ?_; intro a2 c2 w2 ho2 hb2)
  have BW := (hA w (.cells #[.int .i64 den] 3)).trans hb2
  refine (nDivisor_any a2 (1 + n) c2 ([den] ++ ps) _ ho2.si (by
    intro x hx
    rcases List.mem_append.1 hx with hx | hx
    · simp at hx; omega
    · have := HB.out x hx; omega)).mono ?_
  rintro e w3 ⟨rfl, q, rfl⟩
  rw [show [den] ++ ps = den :: ps from rfl, HG.out]
  replace BW := below_drewN BW q
  clear ho2 hb2
  generalize World.drewN _ q = V at BW ⊢
  have hVs := BW.size
  go_wp2_with fail
  go_loopw [7, 17] (fun o i wr => ∃ (k c' : Nat) (a' : Option Addr), i = .int .i64 (k : Int) ∧ k ≤ n ∧ o = .slice a' k c' ∧ OwI wr V.heap.size a' k c' ((ps.take k).map (fun p => p.tdiv g)) ∧ Below V.heap.size V wr) (fun _ i _ => n - (intOf i).toNat)
  case atStart => exact ⟨0, 0, none, rfl, by omega, rfl, by simpa using OwI.nil _ _, Below.refl _ _⟩
  case round =>
    obtain ⟨k, c', a', rfl, hk, rfl, hown, hbr⟩ := hrel
    have hs := hbr.size
    have hbw := BW.trans (hbr.mono hVs)
    by_cases hlt : k < n
    · obtain ⟨ba, oa, rfl, hca⟩ := (h1.keep hbw).at_ (by omega)
      have ea := hca k hlt
      have hx := HB.out (ps[k]?.getD 0) (by
        have : k < ps.length := by omega
        rw [List.getElem?_eq_getElem this]
        exact List.getElem_mem this)
      have hn2 : (ps.take (k + 1)).map (fun p => p.tdiv (g : Int)) = (ps.take k).map (fun p => p.tdiv (g : Int)) ++ [(ps[k]?.getD 0).tdiv (g : Int)] := by
        have : k < ps.length := by omega
        rw [List.take_succ_eq_append_getElem this, List.map_append, List.getElem?_eq_getElem this]
        rfl
      obtain ⟨x, hxx⟩ : ∃ x, ps[k]?.getD 0 = x := ⟨_, rfl⟩
      rw [hxx] at ea hx hn2
      have HN2 := Lib.hid hn2
      clear hca hn2 hxx
      obtain ⟨hx1, hx2⟩ := hx
      have hi : (k : Int) < (n : Int) := by omega
      have hi0 : (0 : Int) ≤ (k : Int) := by omega
      go_wp2_with (first | (at_builtin; refine appI rfl _ _ rfl hown rfl rfl (by omega) (by omega) ?_; intro a2' c2' w5 ho5 hb5 hs5))
      go_roundw
      case rel => exact ⟨k + 1, c2', a2', by go_num, by omega, rfl, by rw [HN2.out]; exact ho5, hbr.trans hb5⟩
      case measure => simp [intOf]; omega
    · have hle : (n : Int) ≤ (k : Int) := by omega
      obtain rfl : n = k := by omega
      have e1 : den / (g : Int) = D := by rw [← HD.out, Int.tdiv_eq_ediv_of_nonneg (by omega)]
      have HE1 := Lib.hid e1
      clear e1
      go_wp2_with fail
      rw [HE1.out]
      go_ret2
      refine ⟨a', c', rfl, ?_, hbw⟩
      rw [List.take_of_length_le (by omega), HP.out] at hown
      exact hown.weak hVs
end Go.Proofs.YtfjcfbmfpefabaaGreat

namespace Go.Proofs.YtfjcfbmfpefabaaGreat
open Go.RowKit
open Calmly (Kept)

theorem natAbs_tdiv_le (a b : Int) : (a.tdiv b).natAbs ≤ a.natAbs := by
  rw [Int.natAbs_tdiv]
  exact Nat.div_le_self _ _
theorem pr_nums {xs : List Int} (h : ∀ j : Nat, -1000 ≤ xs[j]?.getD 0 ∧ xs[j]?.getD 0 ≤ 1000) (h2 : 2 ≤ xs.length) (hn : xs.length ≤ 24) :
    (1 ≤ prDen xs ∧ prDen xs ≤ 27600) ∧ (-300000000 ≤ prVel xs ∧ prVel xs ≤ 300000000) ∧ (-30000000 ≤ prDis xs ∧ prDis xs ≤ 30000000) := by
  have hd := denR_bd xs.length h2 hn
  obtain ⟨hv, hu⟩ := prVD_bd h hn
  have h3 := natAbs_tdiv_le (prV xs) (prG xs)
  have h4 := natAbs_tdiv_le (prD xs) (prG xs)
  have hm : denR xs.length ∈ [denR xs.length, prV xs, prD xs] := by simp
  have hgp := gcds_pos hm (by omega)
  have hgd := gcds_dvd_mem hm
  have hg2 := Int.le_of_dvd (by omega) hgd
  have e : prG xs = ((gcds [denR xs.length, prV xs, prD xs] : Nat) : Int) := rfl
  have h5 : prDen xs = denR xs.length / prG xs := by
    unfold prDen
    rw [Int.tdiv_eq_ediv_of_nonneg (by omega)]
  have h6 : prG xs * (denR xs.length / prG xs) = denR xs.length := Int.mul_ediv_cancel' (by rw [e]; exact hgd)
  have h7 : 1 ≤ denR xs.length / prG xs := by
    rcases Int.lt_or_le 0 (denR xs.length / prG xs) with h | h
    · omega
    · have := Int.mul_nonpos_of_nonneg_of_nonpos (a := prG xs) (b := denR xs.length / prG xs) (by omega) h
      omega
  have h8 : denR xs.length / prG xs ≤ denR xs.length := by
    have := Int.ediv_le_self (b := prG xs) (a := denR xs.length) (by omega)
    exact this
  unfold prVel prDis
  refine ⟨by rw [h5]; omega, by omega, by omega⟩
theorem rsT_bd {xs : List Int} (h : ∀ j : Nat, -1000 ≤ xs[j]?.getD 0 ∧ xs[j]?.getD 0 ≤ 1000) (h2 : 2 ≤ xs.length) (hn : xs.length ≤ 24) (t : Nat) (ht : t < xs.length) :
    (-27600000 ≤ xs[t]?.getD 0 * prDen xs ∧ xs[t]?.getD 0 * prDen xs ≤ 27600000) ∧ (-2000000000 ≤ prVel xs + prDis xs * ((xs.length : Int) - (t : Int)) ∧ prVel xs + prDis xs * ((xs.length : Int) - (t : Int)) ≤ 2000000000) ∧ -3000000000 ≤ rsT xs t ∧ rsT xs t ≤ 3000000000 := by
  obtain ⟨⟨a1, a2⟩, ⟨a3, a4⟩, a5, a6⟩ := pr_nums h h2 hn
  have h3 := h t
  have p1 := pr_bd (c := xs[t]?.getD 0) (a := prDen xs) (C := 1000) (A := 27600) h3.1 h3.2 (by omega) (by omega)
  have p2 := pr_bd (c := prDis xs) (a := (xs.length : Int) - (t : Int)) (C := 30000000) (A := 24) a5 a6 (by omega) (by omega)
  unfold rsT
  omega

set_option maxRecDepth 100000 in
set_option maxHeartbeats 2000000 in
theorem RestOf_any (step : Int) (a : Option Addr) (n c : Nat) (xs : List Int) (w : World) (h1 : SI w a n c xs) (E D : Int) (P : List Int) (hE : (recF step xs).2 = E) (hno : E ≠ 0 → D = 0 ∧ P = []) (hok : E = 0 → restD xs = D ∧ restP xs = P) :
    Calls Tryz.prog 6 #[.agg #[.int .i64 step, .slice a n c]] w fun e w' => ∃ a' n' c', e = .returned (.tuple #[.agg #[.int .i64 D, .slice a' n' c'], .int .i64 E]) ∧ SI w' a' n' c' P ∧ Below w.heap.size w w' := by
  have hA : ∀ (A : World) (o : Obj), Below A.heap.size A (A.alloc o) := fun A o => (Below.refl _ _).alloc (Nat.le_refl _) _
  have hb2 : Below w.heap.size w ((w.alloc (.cells #[.int .i64 step, .slice a n c] 24)).alloc (.cells #[.int .i64 0, .slice none 0 0] 26)) := ((Below.refl _ _).alloc (Nat.le_refl _) _).alloc (by simp) _
  have HE := Lib.hid hE
  have HNO := Lib.hid hno
  have HOK := Lib.hid hok
  clear hE hno hok
  obtain ⟨l1, l2⟩ : n ≤ xs.length ∧ xs.length ≤ n := by have := h1.len; omega
  have m1 := h1.max
  have c1 := h1.cap
  go_enter Tryz.func6, Tryz.ntmps6
  go_wp2_with fail
  refine (recordErr_any step a n c xs _ (h1.keep hb2) E HE.out).mono ?_
  rintro e w1 ⟨rfl, hs⟩
  obtain ⟨x1, x2⟩ := box2 (w := w) (o := .cells #[.int .i64 step, .slice a n c] 24) (o' := .cells #[.int .i64 0, .slice none 0 0] 26) hs
  have BW := hb2.trans (hs.mono hb2.size)
  clear hs
  have f0 := cell_block x1 0
  have f1 := cell_block x1 1
  have g0 := cell_block x2 0
  have g1 := cell_block x2 1
  have g2 := frozen_block x2 0
  have g3 := frozen_block x2 1
  by_cases hz : E = 0
  case neg =>
    obtain ⟨rfl, rfl⟩ := HNO.out hz
    have b1 : (E != 0) = true := by simpa using hz
    clear hz
    go_wp2_with fail
    obtain ⟨s1, s2, s3, s4⟩ := set2 (x := .int .i64 0) (y := .slice none 0 0) g0 g1
    refine bodyPost_ret (v := .tuple #[.agg #[.int .i64 0, .slice none 0 0], .int .i64 E]) (by simp [results, Tryz.results6, go_sem, s1, s2]) rfl ⟨none, 0, 0, rfl, Sl.nil _ 1, ?_⟩
    exact (BW.setCell (by simp) _).setCell (by simp) _
  subst hz
  obtain ⟨hD, hP⟩ := HOK.out rfl
  obtain ⟨q1, q2, q3, q4, q5⟩ := recF_ok HE.out
  have hn0 : 2 ≤ n := by omega
  have hn : n ≤ 24 := by omega
  have hbd := fun t ht => rsT_bd q5 (by omega) (by omega) t ht
  obtain ⟨⟨a1, a2⟩, ⟨a3, a4⟩, a5, a6⟩ := pr_nums q5 (by omega) (by omega)
  have hrd : restD xs = (prDen xs).tdiv (rdG (prDen xs) (rsTo xs n)) := by unfold restD; rw [show xs.length = n by omega]
  have hrp : restP xs = (rsTo xs n).map (fun p => p.tdiv (rdG (prDen xs) (rsTo xs n))) := by unfold restP; rw [show xs.length = n by omega]
  have hln : xs.length = n := by omega
  rw [hrd] at hD
  rw [hrp] at hP
  rw [hln] at hbd
  have hrt : ∀ t, rsT xs t = xs[t]?.getD 0 * prDen xs + (prVel xs + prDis xs * ((n : Int) - (t : Int))) := fun t => by unfold rsT; rw [hln]
  obtain ⟨pd, hpd⟩ : ∃ x, prDen xs = x := ⟨_, rfl⟩
  obtain ⟨pv, hpv⟩ : ∃ x, prVel xs = x := ⟨_, rfl⟩
  obtain ⟨pu, hpu⟩ : ∃ x, prDis xs = x := ⟨_, rfl⟩
  rw [hpd] at hD hP hbd a1 a2 hrt
  rw [hpv] at hbd a3 a4 hrt
  rw [hpu] at hbd a5 a6 hrt
  have H5 := Lib.hid q5
  have HPD := Lib.hid hpd
  have HPV := Lib.hid hpv
  have HPU := Lib.hid hpu
  have HD := Lib.hid hD
  have HP := Lib.hid hP
  have HBD := Lib.hid hbd
  have HRT := Lib.hid hrt
  clear q1 q2 q3 q4 q5 hpd hpv hpu hD hP hbd hrd hrp hrt hln
  go_wp2_with fail
  refine (price_any a n c xs _ (h1.keep BW) hn0 hn H5.out pd pv pu HPD.out HPV.out HPU.out).mono ?_
  rintro e w2 ⟨rfl, hs⟩
  replace x1 := blk_keep x1 hs
  replace x2 := blk_keep x2 hs
  replace BW := BW.trans (hs.mono BW.size)
  have hk := hA w2 (.cells #[.int .i64 pd, .int .i64 pv, .int .i64 pu] 28)
  have x3 := alloc_new w2 (.cells #[.int .i64 pd, .int .i64 pv, .int .i64 pu] 28)
  replace x1 := blk_keep x1 hk
  replace x2 := blk_keep x2 hk
  replace BW := BW.trans (hk.mono BW.size)
  clear f0 f1 g0 g1 g2 g3 hs
  have f0 := cell_block x1 0
  have f1 := cell_block x1 1
  have y1 := cell_block x3 0
  have y2 := cell_block x3 1
  have y3 := cell_block x3 2
  go_wp2_with fail
  obtain ⟨V, hV⟩ : ∃ V, w2.alloc (.cells #[.int .i64 pd, .int .i64 pv, .int .i64 pu] 28) = V := ⟨_, rfl⟩
  obtain ⟨bp, hbp⟩ : ∃ b, w2.heap.size = b := ⟨_, rfl⟩
  rw [hV] at hk x1 x2 x3 BW f0 f1 y1 y2 y3 ⊢
  rw [hbp] at x3 hk y1 y2 y3 ⊢
  clear hV hk hbp
  have hl3 := blk_lt x3
  have hl2 := blk_lt x2
  go_loopw [6, 22] (fun o i wr => ∃ (k c' : Nat) (a' : Option Addr), i = .int .i64 (k : Int) ∧ k ≤ n ∧ o = .slice a' k c' ∧ OwI wr V.heap.size a' k c' (rsTo xs k) ∧ Below V.heap.size V wr) (fun _ i _ => n - (intOf i).toNat)
  case atStart => exact ⟨0, 0, none, rfl, by omega, rfl, OwI.nil _ _, Below.refl _ _⟩
  case round =>
    clear f0 f1 y1 y2 y3
    obtain ⟨k, c', a', rfl, hk, rfl, hown, hbr⟩ := hrel
    have hrs := hbr.size
    have hbw := BW.trans (hbr.mono BW.size)
    have z1 := blk_keep x1 hbr
    have z2 := blk_keep x2 hbr
    have z3 := blk_keep x3 hbr
    by_cases hlt : k < n
    · obtain ⟨ba, oa, rfl, hca⟩ := (h1.keep hbw).at_ (by omega)
      have ea := hca k hlt
      have hx := H5.out k
      obtain ⟨⟨b1, b2⟩, ⟨b3, b4⟩, b5, b6⟩ := HBD.out k hlt
      have hn1 := HRT.out k
      have hn2 := rsTo_succ xs k
      rw [hn1] at hn2 b5 b6
      obtain ⟨x, hxx⟩ : ∃ x, xs[k]?.getD 0 = x := ⟨_, rfl⟩
      rw [hxx] at ea hx hn2 b1 b2 b5 b6
      obtain ⟨ch, hch⟩ : ∃ x, pv + pu * ((n : Int) - (k : Int)) = x := ⟨_, rfl⟩
      rw [hch] at hn2 b3 b4 b5 b6
      have HN2 := Lib.hid hn2
      have HCH := Lib.hid hch
      clear hca hn1 hn2 hxx hch
      obtain ⟨hx1, hx2⟩ := hx
      have hi : (k : Int) < (n : Int) := by omega
      have hi0 : (0 : Int) ≤ (k : Int) := by omega
      have e0 := cell_block z1 1
      have e1 := cell_block z3 0
      have e2 := cell_block z3 1
      have e3 := cell_block z3 2
      go_wp2_with fail
      refine Calmly.wp_region_mix 13 (.fl 0 <| .fl 1 <| .fl 2 <| .fl 3 <| .fl 4 <| .fl 5 <| .fl 6 <| .fl 7 <| .fl 8 <| .fl 9 <| .eff 10 <| .fl 11 <| .eff 12 <| .tail [13, 14]) (by kernel_rfl) (by kernel_rfl) ?_
      have BV : Below wr.heap.size wr wr.drew := (Below.refl _ _).drew
      generalize wr.drew = U at BV ⊢
      replace e0 := cell_block (blk_keep z1 BV) 1
      replace e1 := cell_block (blk_keep z3 BV) 0
      replace e2 := cell_block (blk_keep z3 BV) 1
      replace e3 := cell_block (blk_keep z3 BV) 2
      replace ea := cell_keep ea BV
      have hk := Below.refl U.heap.size U
      go_wp2_with (first | ((with_reducible refine Calmly.is_tail ?_); refine Calmly.mix_tail_app rfl (fun rest hrest => ?_); refine appIw w3 rfl rfl _ _ rfl ow3 rfl rfl (by omega) (by have := BV.size; have := hk3.size; omega) ?_; intro a2' c2' w5 ho5 hb5 hs5; refine hrest _ _ ?_) | ((with_reducible refine Calmly.is_fl ?_); refine Calmly.mix_fl rfl ?_ (fun _ _ => ?_); (first | exact .move _ | exact .load _ _ | exact .fieldAddr _ _ _ (by kernel_rfl) | exact .assign _ | exact .binOp _ _ _ _ _ rfl | exact .indexAddr _ _ _ | exact .len _ _ (by kernel_rfl) | exact .field _ _ _ | exact .extract _ _ | exact .pick _ _ _ | exact .build _ _ | exact .slice _ _ _ _ _ | exact .unOp _ _ _ rfl | exact .index _ _ _ | exact .max _ _ _ rfl rfl | exact .min _ _ _ rfl rfl)) | ((with_reducible refine Calmly.is_gl ?_); refine Calmly.mix_gl rfl rfl rfl ?_; first | ((first | with_reducible refine Calmly.gl_tt ?_ (fun _ _ => ?_) | with_reducible refine Calmly.gl_ff ?_ (fun _ _ => ?_)); (first | exact .move _ | exact .load _ _ | exact .fieldAddr _ _ _ (by kernel_rfl) | exact .assign _ | exact .binOp _ _ _ _ _ rfl | exact .indexAddr _ _ _ | exact .len _ _ (by kernel_rfl) | exact .field _ _ _ | exact .extract _ _ | exact .pick _ _ _ | exact .build _ _ | exact .slice _ _ _ _ _ | exact .unOp _ _ _ rfl | exact .index _ _ _ | exact .max _ _ _ rfl rfl | exact .min _ _ _ rfl rfl)) | with_reducible refine Calmly.gl_tf (fun _ _ => ?_) | with_reducible refine Calmly.gl_ft (fun _ _ => ?_)) | ((with_reducible refine Calmly.is_eff ?_); refine Calmly.mix_eff rfl (fun _ _ => ?_)) | ((with_reducible refine Calmly.is_gf ?_); refine Calmly.mix_gf rfl rfl rfl ?_; first | with_reducible refine Calmly.gf_tt (fun _ _ => ?_) | with_reducible refine Calmly.gf_ff (fun _ _ => ?_) | with_reducible refine Calmly.gf_tf (kept_of hk) (fun _ _ => ?_) | with_reducible refine Calmly.gf_ft (kept_of hk) (fun _ _ => ?_)) | ((with_reducible refine Calmly.is_tail ?_); first | refine Calmly.mix_tail_nil ?_ | refine Calmly.mix_tail rfl (fun _ _ => ?_)) | ((with_reducible refine Calmly.is_kept ?_); refine ⟨kept_of hk, ?_⟩) | (with_reducible refine Calmly.mix_alt ?_ ?_) | (refine kept_alloc hk (fun hk' hblk hge => ?_); replace hk := hk'; clear hk') | (go_at_call 23; refine (change_any pd pv pu n k _ ⟨by omega, by omega⟩ ⟨by omega, by omega⟩ ⟨by omega, by omega⟩ ⟨by omega, by omega⟩ ch HCH.out).mono ?_; rintro e w3 ⟨rfl, hs3⟩; replace hk := step_of hk hs3; have hk3 := hk; have ow3 := (hown.keep BV).keep hk))
      go_roundw
      case rel => exact ⟨k + 1, c2', a2', by go_num, by omega, rfl, by rw [HN2.out]; exact ho5, hbr.trans ((BV.trans (hk3.mono BV.size)).mono hrs |>.trans hb5)⟩
      case measure => simp [intOf]; omega
    · have hle : (n : Int) ≤ (k : Int) := by omega
      obtain rfl : k = n := by omega
      have e1 := cell_block z3 0
      have hbp : ∀ x ∈ rsTo xs k, -9000000000000000000 ≤ x ∧ x ≤ 9000000000000000000 := by
        intro x hx
        unfold rsTo at hx
        obtain ⟨t, ht, rfl⟩ := List.mem_map.1 hx
        have := (HBD.out t (List.mem_range.1 ht)).2.2
        omega
      have HBP := Lib.hid hbp
      clear hbp
      go_wp2_with fail
      refine (reduced_any pd a' k c' _ _ hown.si (by omega) a1 (by omega) HBP.out D P HD.out HP.out).mono ?_
      rintro e w4 ⟨a4, c4, rfl, o4, hs⟩
      replace z2 := blk_keep z2 hs
      replace hbw := hbw.trans (hs.mono hbw.size)
      have g0 := cell_block z2 0
      have g1 := cell_block z2 1
      have g2 := frozen_block z2 0
      have g3 := frozen_block z2 1
      go_wp2_with fail
      obtain ⟨s1, s2, s3, s4⟩ := set2 (x := .int .i64 D) (y := .slice a4 k c4) g0 g1
      refine bodyPost_ret (v := .tuple #[.agg #[.int .i64 D, .slice a4 k c4], .int .i64 0]) (by simp [results, Tryz.results6, go_sem, s1, s2]) rfl ⟨a4, k, c4, rfl, ?_, ?_⟩
      · exact (o4.under2 (by omega) _ _).si
      · exact (hbw.setCell (by simp) _).setCell (by simp) _

set_option maxRecDepth 100000 in
set_option maxHeartbeats 1000000 in
theorem PricesOf_any (step : Int) (a : Option Addr) (n c : Nat) (xs : List Int) (w : World) (h1 : SI w a n c xs) (E D V U : Int) (hE : (recF step xs).2 = E) (hno : E ≠ 0 → D = 0 ∧ V = 0 ∧ U = 0) (hok : E = 0 → prDen xs = D ∧ prVel xs = V ∧ prDis xs = U) :
    Calls Tryz.prog 8 #[.agg #[.int .i64 step, .slice a n c]] w fun e w' => e = .returned (.tuple #[.agg #[.int .i64 D, .int .i64 V, .int .i64 U], .int .i64 E]) ∧ Below w.heap.size w w' := by
  have hb2 : Below w.heap.size w ((w.alloc (.cells #[.int .i64 step, .slice a n c] 24)).alloc (.cells #[.int .i64 0, .int .i64 0, .int .i64 0] 28)) := ((Below.refl _ _).alloc (Nat.le_refl _) _).alloc (by simp) _
  have HE := Lib.hid hE
  have HNO := Lib.hid hno
  have HOK := Lib.hid hok
  clear hE hno hok
  have m1 := h1.max
  have c1 := h1.cap
  go_enter Tryz.func8, Tryz.ntmps8
  go_wp2_with fail
  refine (recordErr_any step a n c xs _ (h1.keep hb2) E HE.out).mono ?_
  rintro e w1 ⟨rfl, hs⟩
  obtain ⟨x1, x2⟩ := box2 (w := w) (o := .cells #[.int .i64 step, .slice a n c] 24) (o' := .cells #[.int .i64 0, .int .i64 0, .int .i64 0] 28) hs
  have BW := hb2.trans (hs.mono hb2.size)
  have hlt := blk_lt x2
  clear hs
  have f0 := cell_block x1 0
  have f1 := cell_block x1 1
  have g0 := cell_block x2 0
  have g1 := cell_block x2 1
  have g2 := cell_block x2 2
  have g3 := frozen_block x2 0
  have g4 := frozen_block x2 1
  have g5 := frozen_block x2 2
  by_cases hz : E = 0
  case neg =>
    obtain ⟨rfl, rfl, rfl⟩ := HNO.out hz
    have b1 : (E != 0) = true := by simpa using hz
    clear hz
    go_wp2_with fail
    obtain ⟨s1, s2, s3⟩ := set3 (x := .int .i64 0) (y := .int .i64 0) (z := .int .i64 0) x2
    refine bodyPost_ret (v := .tuple #[.agg #[.int .i64 0, .int .i64 0, .int .i64 0], .int .i64 E]) (by simp [results, Tryz.results8, go_sem, s1, s2, s3]) rfl ⟨rfl, ?_⟩
    exact ((BW.setCell (by simp) _).setCell (by simp) _).setCell (by simp) _
  subst hz
  obtain ⟨hD, hV, hU⟩ := HOK.out rfl
  obtain ⟨q1, q2, q3, q4, q5⟩ := recF_ok HE.out
  have hl := h1.len
  have hn0 : 2 ≤ n := by omega
  have hn : n ≤ 24 := by omega
  have H5 := Lib.hid q5
  have HV := Lib.hid hV
  have HD := Lib.hid hD
  have HU := Lib.hid hU
  clear q1 q2 q3 q4 q5 hV hD hU hl
  go_wp2_with fail
  refine (price_any a n c xs _ (h1.keep BW) hn0 hn H5.out D V U HD.out HV.out HU.out).mono ?_
  rintro e w2 ⟨rfl, hs⟩
  replace x2 := blk_keep x2 hs
  replace BW := BW.trans (hs.mono BW.size)
  clear f0 f1 g0 g1 g2 g3 g4 g5 hs
  have g0 := cell_block x2 0
  have g1 := cell_block x2 1
  have g2 := cell_block x2 2
  have g3 := frozen_block x2 0
  have g4 := frozen_block x2 1
  have g5 := frozen_block x2 2
  go_wp2_with fail
  obtain ⟨s1, s2, s3⟩ := set3 (x := .int .i64 D) (y := .int .i64 V) (z := .int .i64 U) x2
  refine bodyPost_ret (v := .tuple #[.agg #[.int .i64 D, .int .i64 V, .int .i64 U], .int .i64 0]) (by simp [results, Tryz.results8, go_sem, s1, s2, s3]) rfl ⟨rfl, ?_⟩
  exact ((BW.setCell (by simp) _).setCell (by simp) _).setCell (by simp) _
end Go.Proofs.YtfjcfbmfpefabaaGreat

namespace Go.Proofs.YtfjcfbmfpefabaaGreat
open Go.RowKit
open Calmly (Kept)

theorem tdiv_floor (n d : Int) (h : 0 < d) : n / d = if n.tmod d < 0 then n.tdiv d - 1 else n.tdiv d := by
  have h1 := Int.tmod_add_mul_tdiv n d
  have h2 := Int.emod_add_mul_ediv n d
  have h3 := Int.emod_nonneg n (by omega : d ≠ 0)
  have h4 := Int.emod_lt_of_pos n h
  have h5 : n.tmod d < d := Int.tmod_lt_of_pos n h
  have h6 : -d < n.tmod d := by
    have := Int.lt_tmod_of_pos n h
    omega
  by_cases hn : n.tmod d < 0
  · rw [if_pos hn]
    have h7 : d * (n / d) = d * (n.tdiv d - 1) + (d + n.tmod d - n % d) := by rw [Int.mul_sub]; omega
    have h8 : d * (n / d - (n.tdiv d - 1)) = d + n.tmod d - n % d := by rw [Int.mul_sub]; omega
    have h9 : n / d - (n.tdiv d - 1) < 1 := by
      rcases Int.lt_or_le (n / d - (n.tdiv d - 1)) 1 with h | h'
      · exact h
      · have := Int.mul_le_mul_of_nonneg_left h' (by omega : 0 ≤ d)
        omega
    have h10 : -1 < n / d - (n.tdiv d - 1) := by
      rcases Int.lt_or_le (-1) (n / d - (n.tdiv d - 1)) with h | h'
      · exact h
      · have := Int.mul_le_mul_of_nonneg_left h' (by omega : 0 ≤ d)
        omega
    omega
  · rw [if_neg hn]
    have h8 : d * (n / d - n.tdiv d) = n.tmod d - n % d := by rw [Int.mul_sub]; omega
    have h9 : n / d - n.tdiv d < 1 := by
      rcases Int.lt_or_le (n / d - n.tdiv d) 1 with h | h'
      · exact h
      · have := Int.mul_le_mul_of_nonneg_left h' (by omega : 0 ≤ d)
        omega
    have h10 : -1 < n / d - n.tdiv d := by
      rcases Int.lt_or_le (-1) (n / d - n.tdiv d) with h | h'
      · exact h
      · have := Int.mul_le_mul_of_nonneg_left h' (by omega : 0 ≤ d)
        omega
    omega
theorem tmod_emod (n d : Int) (h : 0 < d) : n % d = if n.tmod d < 0 then n.tmod d + d else n.tmod d := by
  have h1 := Int.tmod_add_mul_tdiv n d
  have h2 := Int.emod_add_mul_ediv n d
  have h3 := tdiv_floor n d h
  split at h3
  · rename_i h4
    rw [if_pos h4]
    rw [h3, Int.mul_sub] at h2
    omega
  · rename_i h4
    rw [if_neg h4]
    rw [h3] at h2
    omega
theorem tdivq_bd (n d : Int) (h : 0 < d) (h1 : -9223372036854775808 ≤ n) (h2 : n ≤ 9223372036854775807) : -9223372036854775808 ≤ n.tdiv d ∧ n.tdiv d ≤ 9223372036854775807 := by
  rcases Int.le_total 0 n with h0 | h0
  · have h3 : 0 ≤ n.tdiv d := Int.tdiv_nonneg h0 (by omega)
    have h4 : n.tdiv d ≤ n := by
      rw [Int.tdiv_eq_ediv_of_nonneg h0]
      exact Int.ediv_le_self d h0
    omega
  · have h3 : 0 ≤ (-n).tdiv d := Int.tdiv_nonneg (by omega) (by omega)
    have h4 : (-n).tdiv d ≤ -n := by
      rw [Int.tdiv_eq_ediv_of_nonneg (by omega)]
      exact Int.ediv_le_self d (by omega)
    rw [Int.neg_tdiv] at h3 h4
    omega

/-- How two numbers compare: -1, 0 or 1. -/
def cmpQ (x y : Int) : Int := if x < y then -1 else if y < x then 1 else 0
theorem cmpQ_shift (x y z : Int) : cmpQ (x + z) (y + z) = cmpQ x y := by
  unfold cmpQ
  have e1 : (x + z < y + z) = (x < y) := by simp
  have e2 : (y + z < x + z) = (y < x) := by simp
  simp only [e1, e2]
/-- A step of the comparison of fractions. -/
theorem cmp_lt {n d m k : Int} (hd : 0 < d) (hk : 0 < k) (h : n / d < m / k) : cmpQ (n * k) (m * d) = -1 := by
  have h1 : n < d * (n / d) + d := by
    have := Int.emod_add_mul_ediv n d
    have := Int.emod_lt_of_pos n hd
    omega
  have h2 : k * (m / k) ≤ m := by
    have := Int.emod_add_mul_ediv m k
    have := Int.emod_nonneg m (by omega : k ≠ 0)
    omega
  have h3 : n * k < (d * (n / d) + d) * k := Int.mul_lt_mul_of_pos_right h1 hk
  have h4 : k * (m / k) * d ≤ m * d := Int.mul_le_mul_of_nonneg_right h2 (by omega)
  have h5 : (d * (n / d) + d) * k = (n / d + 1) * (d * k) := by
    rw [show d * (n / d) + d = d * (n / d + 1) by rw [Int.mul_add, Int.mul_one]]
    rw [Int.mul_comm d (n / d + 1), Int.mul_assoc]
  have h6 : k * (m / k) * d = (m / k) * (d * k) := by
    rw [Int.mul_comm k (m / k), Int.mul_assoc, Int.mul_comm k d]
  have h7 : (n / d + 1) * (d * k) ≤ (m / k) * (d * k) := Int.mul_le_mul_of_nonneg_right (by omega) (Int.mul_nonneg (by omega) (by omega))
  unfold cmpQ
  rw [if_pos (by omega)]
theorem cmp_swap (x y : Int) : cmpQ y x = - cmpQ x y := by
  unfold cmpQ
  split <;> split <;> first | omega | (split <;> omega) | rfl
theorem cmp_gt {n d m k : Int} (hd : 0 < d) (hk : 0 < k) (h : m / k < n / d) : cmpQ (n * k) (m * d) = 1 := by
  rw [cmp_swap, cmp_lt hk hd h]
  rfl
theorem cmp_eq {n d m k : Int} (h : n / d = m / k) : cmpQ (n * k) (m * d) = cmpQ ((n % d) * k) ((m % k) * d) := by
  have h1 := Int.emod_add_mul_ediv n d
  have h2 := Int.emod_add_mul_ediv m k
  have e1 : n * k = (n % d) * k + d * (n / d) * k := by rw [← Int.add_mul, h1]
  have e2 : m * d = (m % k) * d + d * (n / d) * k := by
    rw [h, show d * (m / k) * k = k * (m / k) * d by rw [Int.mul_comm d, Int.mul_assoc, Int.mul_comm d k, ← Int.mul_assoc, Int.mul_comm (m / k) k], ← Int.add_mul, h2]
  rw [e1, e2, cmpQ_shift]

/-- A fraction in lowest terms, with a denominator above 0; its parts are small. -/
def isLow (x y : Int) : Bool := decide (0 < y) && (Int.gcd x y : Int) == 1
def isSmallF (x y : Int) : Bool := wIn x (-1000000000) 1000000000 && wIn y 1 1000000000

end Go.Proofs.YtfjcfbmfpefabaaGreat
