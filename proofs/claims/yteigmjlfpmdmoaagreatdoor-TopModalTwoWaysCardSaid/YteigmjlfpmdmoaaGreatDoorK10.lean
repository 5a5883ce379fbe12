/- What a text means: frames and decays; valid ones are read again. Contracts of chapter 6: the texts of frames and decays. Contracts of chapter 6: texts parsed as frames and decays. Contracts of the helpers' package: a text cut at a byte, a number read, a number written. -/
import Derived.Test.YteigmjlfpmdmoaaGreatDoorK09
namespace Go.Proofs.YteigmjlfpmdmoaaGreatDoor

/-- The texts of a frame and of a decay. -/
def fmtF (ms ks : List Int) : List UInt8 := wordsF ms ++ 59 :: wordsF ks
def fmtD (xs : List Int) (o : Int) : List UInt8 := wordsF [o] ++ 59 :: wordsF xs
/-- The error of a text for a frame, and the frame. -/
def pfE (s : List UInt8) : Int := if 60000 < s.length then 8 else match bothF 3 false s with
  | none => 7
  | some p => (checkF p.1 p.2).2
def pfV (s : List UInt8) : List Int × List Int := if pfE s = 0 then (bothF 3 false s).getD ([], []) else ([], [])
/-- The error of a text for a decay, and the decay. -/
def pdQ (s : List UInt8) : Option (List Int × Int) := match bothF 5 true s with
  | none => none
  | some p => if p.1.length = 1 then some (p.2, p.1[0]?.getD 0) else none
def pdE (s : List UInt8) : Int := if 60000 < s.length then 8 else match pdQ s with
  | none => 7
  | some p => decayE p.1 p.2
def pdV (s : List UInt8) : List Int × Int := if pdE s = 0 then (pdQ s).getD ([], 0) else ([], 0)

theorem words_len (d : Nat) : ∀ (l : List Int), (∀ n ∈ l, (Lib.itoa n).length ≤ d) → (wordsF l).length ≤ (d + 1) * l.length
  | [], _ => by simp [wordsF, Lib.join_nil]
  | [n], h => by
    have := h n (by simp)
    simp only [wordsF, List.map_cons, List.map_nil, Lib.join_one, List.length_cons, List.length_nil]
    omega
  | n :: m :: r, h => by
    have ih := words_len d (m :: r) (fun x hx => h x (List.mem_cons_of_mem _ hx))
    have := h n (by simp)
    simp only [wordsF, List.map_cons, List.length_cons] at ih ⊢
    rw [join_cons2, List.length_append, List.length_append, List.length_singleton]
    have e : (d + 1) * (r.length + 1 + 1) = (d + 1) * (r.length + 1) + (d + 1) := by rw [Nat.mul_succ]
    omega
theorem itoa_len {n : Int} {d : Nat} (hd : 1 ≤ d) (h : n.natAbs < 10 ^ d) : (Lib.itoa n).length ≤ d + 1 := by
  have := dec_len d n.natAbs h hd
  by_cases hn : n < 0
  · rw [itoa_neg' hn, List.length_cons]; omega
  · rw [itoa_pos' (by omega)]; omega

theorem mem_getD {l : List Int} {n : Int} (h : n ∈ l) : ∃ i, i < l.length ∧ l[i]?.getD 0 = n := by
  obtain ⟨i, hi, e⟩ := List.mem_iff_getElem.1 h
  exact ⟨i, hi, by simp [hi, e]⟩

theorem pf_back {ms ks : List Int} (h : (checkF ms ks).2 = 0) : pfE (fmtF ms ks) = 0 ∧ pfV (fmtF ms ks) = (ms, ks) := by
  obtain ⟨h1, h2, h3, h4, h5⟩ := checkF_ok h
  have bm : ∀ n ∈ ms, 1 ≤ n ∧ n ≤ 10 := fun n hn => by
    obtain ⟨i, hi, rfl⟩ := mem_getD hn
    exact h4 i hi
  have bk : ∀ n ∈ ks, 1 ≤ n ∧ n ≤ 20 := fun n hn => by
    obtain ⟨i, hi, rfl⟩ := mem_getD hn
    exact h5 i (by omega)
  have hb : bothF 3 false (fmtF ms ks) = some (ms, ks) := by
    refine bothF_words 3 false ms ks (fun e => ?_) (fun e => ?_) (fun n hn => ⟨?_, ?_⟩) (fun n hn => ⟨?_, fun h0 => ?_⟩)
    · rw [e] at h2; simp at h2
    · rw [e] at h1; simp at h1; omega
    · have := bm n hn; exact dec_len 3 _ (by omega) (by omega)
    · have := bm n hn; omega
    · have := bk n hn; exact dec_len 3 _ (by omega) (by omega)
    · have := bk n hn; omega
  have l1 := words_len 4 ms (fun n hn => by have := bm n hn; exact itoa_len (d := 3) (by omega) (by omega))
  have l2 := words_len 4 ks (fun n hn => by have := bk n hn; exact itoa_len (d := 3) (by omega) (by omega))
  have hl : ¬ 60000 < (fmtF ms ks).length := by
    unfold fmtF
    rw [List.length_append, List.length_cons]
    omega
  have he : pfE (fmtF ms ks) = 0 := by
    unfold pfE
    rw [if_neg hl, hb]
    exact h
  exact ⟨he, by unfold pfV; rw [if_pos he, hb]; rfl⟩

theorem pd_back {xs : List Int} {o : Int} (h : decayE xs o = 0) : pdE (fmtD xs o) = 0 ∧ pdV (fmtD xs o) = (xs, o) := by
  obtain ⟨h1, h2, h3, h4, h5⟩ := decayE_ok h
  have bx : ∀ n ∈ xs, -10000 ≤ n ∧ n ≤ 10000 := fun n hn => by
    obtain ⟨i, hi, rfl⟩ := mem_getD hn
    exact h3 i
  have hb : bothF 5 true (fmtD xs o) = some ([o], xs) := by
    refine bothF_words 5 true [o] xs (by simp) (fun e => ?_) (fun n hn => ⟨?_, ?_⟩) (fun n hn => ⟨?_, fun h0 => rfl⟩)
    · rw [e] at h1; simp at h1
    · have := List.mem_singleton.1 hn; exact dec_len 5 _ (by omega) (by omega)
    · have := List.mem_singleton.1 hn; omega
    · have := bx n hn; exact dec_len 5 _ (by omega) (by omega)
  have l1 := words_len 6 [o] (fun n hn => by have := List.mem_singleton.1 hn; exact itoa_len (d := 5) (by omega) (by omega))
  have l2 := words_len 6 xs (fun n hn => by have := bx n hn; exact itoa_len (d := 5) (by omega) (by omega))
  have hl : ¬ 60000 < (fmtD xs o).length := by
    unfold fmtD
    rw [List.length_append, List.length_cons]
    simp only [List.length_cons, List.length_nil] at l1
    omega
  have hq : pdQ (fmtD xs o) = some (xs, o) := by
    unfold pdQ
    rw [hb]
    rfl
  have he : pdE (fmtD xs o) = 0 := by
    unfold pdE
    rw [if_neg hl, hq]
    exact h
  exact ⟨he, by unfold pdV; rw [if_pos he, hq]; rfl⟩

/-- The text is parsed where it is cut. -/
theorem pf_large {s : List UInt8} (h : 60000 < s.length) : pfE s = 8 ∧ pfV s = ([], []) := by
  have e : pfE s = 8 := by unfold pfE; rw [if_pos h]
  exact ⟨e, by unfold pfV; rw [e]; rfl⟩
theorem pf_bad {s : List UInt8} (h : ¬ 60000 < s.length) (hb : bothF 3 false s = none) : pfE s = 7 ∧ pfV s = ([], []) := by
  have e : pfE s = 7 := by unfold pfE; rw [if_neg h, hb]
  exact ⟨e, by unfold pfV; rw [e]; rfl⟩
theorem pf_some {s : List UInt8} {m k : List Int} (h : ¬ 60000 < s.length) (hb : bothF 3 false s = some (m, k)) : pfE s = (checkF m k).2 ∧ pfV s = if (checkF m k).2 = 0 then (m, k) else ([], []) := by
  have e : pfE s = (checkF m k).2 := by unfold pfE; rw [if_neg h, hb]
  exact ⟨e, by unfold pfV; rw [e, hb]; rfl⟩
theorem pd_large {s : List UInt8} (h : 60000 < s.length) : pdE s = 8 ∧ pdV s = ([], 0) := by
  have e : pdE s = 8 := by unfold pdE; rw [if_pos h]
  exact ⟨e, by unfold pdV; rw [e]; rfl⟩
theorem pd_bad {s : List UInt8} (h : ¬ 60000 < s.length) (hb : bothF 5 true s = none) : pdE s = 7 ∧ pdV s = ([], 0) := by
  have e : pdE s = 7 := by unfold pdE pdQ; rw [if_neg h, hb]
  exact ⟨e, by unfold pdV; rw [e]; rfl⟩
theorem pd_many {s : List UInt8} {m k : List Int} (h : ¬ 60000 < s.length) (hb : bothF 5 true s = some (m, k)) (hm : m.length ≠ 1) : pdE s = 7 ∧ pdV s = ([], 0) := by
  have q : pdQ s = none := by unfold pdQ; rw [hb]; exact if_neg hm
  have e : pdE s = 7 := by unfold pdE; rw [if_neg h, q]
  exact ⟨e, by unfold pdV; rw [e]; rfl⟩
theorem pd_some {s : List UInt8} {o : Int} {k : List Int} (h : ¬ 60000 < s.length) (hb : bothF 5 true s = some ([o], k)) : pdE s = decayE k o ∧ pdV s = if decayE k o = 0 then (k, o) else ([], 0) := by
  have q : pdQ s = some (k, o) := by unfold pdQ; rw [hb]; rfl
  have e : pdE s = decayE k o := by unfold pdE; rw [if_neg h, q]
  exact ⟨e, by unfold pdV; rw [e, q]; rfl⟩
end Go.Proofs.YteigmjlfpmdmoaaGreatDoor

namespace Go.Proofs.YteigmjlfpmdmoaaGreatDoor
open Go.RowKit
open Calmly (Kept)

theorem fmt_bs (x y : List UInt8) : (bs x ++ (⟨#[59]⟩ : ByteArray)) ++ bs y = bs (x ++ 59 :: y) := by
  show (bs x ++ bs [59]) ++ bs y = _
  rw [bs_app, bs_app]
  simp
set_option maxRecDepth 100000 in
set_option maxHeartbeats 1000000 in
theorem FormatFrame_any (a b : Option Addr) (n c m k : Nat) (ms ks : List Int) (w : World) (hv : Vars w) (h1 : SI w a n c ms) (h2 : SI w b m k ks) (hn : n ≤ 1000) (hm : m ≤ 1000) (i1 : I64 ms) (i2 : I64 ks) :
    Calls Tryz.prog 24 #[.agg #[.slice a n c, .slice b m k]] w fun e w' => e = .returned (.string (bs (fmtF ms ks))) ∧ Below w.heap.size w w' := by
  have l1 := words_len20 i1
  have l2 := words_len20 i2
  have e1 := h1.len
  have e2 := h2.len
  have z1 := bs_size (wordsF ms)
  have z2 := bs_size (wordsF ks)
  have s1 : (bs (wordsF ms)).size ≤ 21000 := by omega
  have s2 : (bs (wordsF ks)).size ≤ 21000 := by omega
  clear l1 l2 e1 e2 z1 z2
  have BA : Below w.heap.size w (w.alloc (.cells #[.slice a n c, .slice b m k] 52)) := (Below.refl _ _).alloc (Nat.le_refl _) _
  have y0 := alloc_new w (.cells #[.slice a n c, .slice b m k] 52)
  go_enter Tryz.func24, Tryz.ntmps24
  go_wp2_with fail
  generalize w.alloc (.cells #[.slice a n c, .slice b m k] 52) = W at *
  refine Calmly.wp_region_mix 7 (.fl 0 <| .fl 1 <| .fl 4 <| .fl 5 <| .eff 2 <| .fl 3 <| .eff 6 <| .tail [7, 8]) (by kernel_rfl) (by kernel_rfl) ?_
  replace BA := BA.drew
  replace y0 := blk_keep y0 (Below.refl _ _).drew
  generalize W.drew = V at *
  have f0 := cell_block y0 0
  have f1 := cell_block y0 1
  have hk := Below.refl V.heap.size V
  go_wp2_with (first | ((with_reducible refine Calmly.is_fl ?_); refine Calmly.mix_fl rfl ?_ (fun _ _ => ?_); (first | exact .move _ | exact .load _ _ | exact .fieldAddr _ _ _ (by kernel_rfl) | exact .assign _ | exact .binOp _ _ _ _ _ rfl | exact .indexAddr _ _ _ | exact .len _ _ (by kernel_rfl) | exact .field _ _ _ | exact .extract _ _ | exact .pick _ _ _ | exact .build _ _ | exact .slice _ _ _ _ _ | exact .unOp _ _ _ rfl | exact .index _ _ _ | exact .max _ _ _ rfl rfl | exact .min _ _ _ rfl rfl | exact .nilCheck _ _ rfl)) | ((with_reducible refine Calmly.is_gl ?_); refine Calmly.mix_gl rfl rfl rfl ?_; first | ((first | with_reducible refine Calmly.gl_tt ?_ (fun _ _ => ?_) | with_reducible refine Calmly.gl_ff ?_ (fun _ _ => ?_)); (first | exact .move _ | exact .load _ _ | exact .fieldAddr _ _ _ (by kernel_rfl) | exact .assign _ | exact .binOp _ _ _ _ _ rfl | exact .indexAddr _ _ _ | exact .len _ _ (by kernel_rfl) | exact .field _ _ _ | exact .extract _ _ | exact .pick _ _ _ | exact .build _ _ | exact .slice _ _ _ _ _ | exact .unOp _ _ _ rfl | exact .index _ _ _ | exact .max _ _ _ rfl rfl | exact .min _ _ _ rfl rfl | exact .nilCheck _ _ rfl)) | with_reducible refine Calmly.gl_tf (fun _ _ => ?_) | with_reducible refine Calmly.gl_ft (fun _ _ => ?_)) | ((with_reducible refine Calmly.is_eff ?_); refine Calmly.mix_eff rfl (fun _ _ => ?_)) | ((with_reducible refine Calmly.is_gf ?_); refine Calmly.mix_gf rfl rfl rfl ?_; first | with_reducible refine Calmly.gf_tt (fun _ _ => ?_) | with_reducible refine Calmly.gf_ff (fun _ _ => ?_) | with_reducible refine Calmly.gf_tf (kept_of hk) (fun _ _ => ?_) | with_reducible refine Calmly.gf_ft (kept_of hk) (fun _ _ => ?_)) | ((with_reducible refine Calmly.is_tail ?_); first | refine Calmly.mix_tail_nil ?_ | refine Calmly.mix_tail rfl (fun _ _ => ?_)) | ((with_reducible refine Calmly.is_kept ?_); refine ⟨kept_of hk, ?_⟩) | (with_reducible refine Calmly.mix_alt ?_ ?_))
  refine (words_any a n c ms V (hv.keep BA) (h1.keep BA) (by omega) i1).mono ?_
  rintro e w1 ⟨rfl, hb1⟩
  replace hk := step_of hk hb1
  go_wp2_with (first | ((with_reducible refine Calmly.is_fl ?_); refine Calmly.mix_fl rfl ?_ (fun _ _ => ?_); (first | exact .move _ | exact .load _ _ | exact .fieldAddr _ _ _ (by kernel_rfl) | exact .assign _ | exact .binOp _ _ _ _ _ rfl | exact .indexAddr _ _ _ | exact .len _ _ (by kernel_rfl) | exact .field _ _ _ | exact .extract _ _ | exact .pick _ _ _ | exact .build _ _ | exact .slice _ _ _ _ _ | exact .unOp _ _ _ rfl | exact .index _ _ _ | exact .max _ _ _ rfl rfl | exact .min _ _ _ rfl rfl | exact .nilCheck _ _ rfl)) | ((with_reducible refine Calmly.is_gl ?_); refine Calmly.mix_gl rfl rfl rfl ?_; first | ((first | with_reducible refine Calmly.gl_tt ?_ (fun _ _ => ?_) | with_reducible refine Calmly.gl_ff ?_ (fun _ _ => ?_)); (first | exact .move _ | exact .load _ _ | exact .fieldAddr _ _ _ (by kernel_rfl) | exact .assign _ | exact .binOp _ _ _ _ _ rfl | exact .indexAddr _ _ _ | exact .len _ _ (by kernel_rfl) | exact .field _ _ _ | exact .extract _ _ | exact .pick _ _ _ | exact .build _ _ | exact .slice _ _ _ _ _ | exact .unOp _ _ _ rfl | exact .index _ _ _ | exact .max _ _ _ rfl rfl | exact .min _ _ _ rfl rfl | exact .nilCheck _ _ rfl)) | with_reducible refine Calmly.gl_tf (fun _ _ => ?_) | with_reducible refine Calmly.gl_ft (fun _ _ => ?_)) | ((with_reducible refine Calmly.is_eff ?_); refine Calmly.mix_eff rfl (fun _ _ => ?_)) | ((with_reducible refine Calmly.is_gf ?_); refine Calmly.mix_gf rfl rfl rfl ?_; first | with_reducible refine Calmly.gf_tt (fun _ _ => ?_) | with_reducible refine Calmly.gf_ff (fun _ _ => ?_) | with_reducible refine Calmly.gf_tf (kept_of hk) (fun _ _ => ?_) | with_reducible refine Calmly.gf_ft (kept_of hk) (fun _ _ => ?_)) | ((with_reducible refine Calmly.is_tail ?_); first | refine Calmly.mix_tail_nil ?_ | refine Calmly.mix_tail rfl (fun _ _ => ?_)) | ((with_reducible refine Calmly.is_kept ?_); refine ⟨kept_of hk, ?_⟩) | (with_reducible refine Calmly.mix_alt ?_ ?_))
  refine (words_any b m k ks w1 (hv.keep (BA.trans (hk.mono BA.size))) ((h2.keep BA).keep hk) (by omega) i2).mono ?_
  rintro e w2 ⟨rfl, hb2⟩
  replace hk := step_of hk hb2
  go_wp2_with (first | ((with_reducible refine Calmly.is_fl ?_); refine Calmly.mix_fl rfl ?_ (fun _ _ => ?_); (first | exact .move _ | exact .load _ _ | exact .fieldAddr _ _ _ (by kernel_rfl) | exact .assign _ | exact .binOp _ _ _ _ _ rfl | exact .indexAddr _ _ _ | exact .len _ _ (by kernel_rfl) | exact .field _ _ _ | exact .extract _ _ | exact .pick _ _ _ | exact .build _ _ | exact .slice _ _ _ _ _ | exact .unOp _ _ _ rfl | exact .index _ _ _ | exact .max _ _ _ rfl rfl | exact .min _ _ _ rfl rfl | exact .nilCheck _ _ rfl)) | ((with_reducible refine Calmly.is_gl ?_); refine Calmly.mix_gl rfl rfl rfl ?_; first | ((first | with_reducible refine Calmly.gl_tt ?_ (fun _ _ => ?_) | with_reducible refine Calmly.gl_ff ?_ (fun _ _ => ?_)); (first | exact .move _ | exact .load _ _ | exact .fieldAddr _ _ _ (by kernel_rfl) | exact .assign _ | exact .binOp _ _ _ _ _ rfl | exact .indexAddr _ _ _ | exact .len _ _ (by kernel_rfl) | exact .field _ _ _ | exact .extract _ _ | exact .pick _ _ _ | exact .build _ _ | exact .slice _ _ _ _ _ | exact .unOp _ _ _ rfl | exact .index _ _ _ | exact .max _ _ _ rfl rfl | exact .min _ _ _ rfl rfl | exact .nilCheck _ _ rfl)) | with_reducible refine Calmly.gl_tf (fun _ _ => ?_) | with_reducible refine Calmly.gl_ft (fun _ _ => ?_)) | ((with_reducible refine Calmly.is_eff ?_); refine Calmly.mix_eff rfl (fun _ _ => ?_)) | ((with_reducible refine Calmly.is_gf ?_); refine Calmly.mix_gf rfl rfl rfl ?_; first | with_reducible refine Calmly.gf_tt (fun _ _ => ?_) | with_reducible refine Calmly.gf_ff (fun _ _ => ?_) | with_reducible refine Calmly.gf_tf (kept_of hk) (fun _ _ => ?_) | with_reducible refine Calmly.gf_ft (kept_of hk) (fun _ _ => ?_)) | ((with_reducible refine Calmly.is_tail ?_); first | refine Calmly.mix_tail_nil ?_ | refine Calmly.mix_tail rfl (fun _ _ => ?_)) | ((with_reducible refine Calmly.is_kept ?_); refine ⟨kept_of hk, ?_⟩) | (with_reducible refine Calmly.mix_alt ?_ ?_))
  go_ret
  exact ⟨congrArg (fun x => Ending.returned (Value.string x)) (fmt_bs _ _), BA.trans (hk.mono BA.size)⟩

set_option maxRecDepth 100000 in
set_option maxHeartbeats 1000000 in
theorem FormatDecay_any (a : Option Addr) (n c : Nat) (xs : List Int) (off : Int) (w : World) (hv : Vars w) (h1 : SI w a n c xs) (hn : n ≤ 1000) (i1 : I64 xs) (o1 : -9223372036854775808 ≤ off) (o2 : off ≤ 9223372036854775807) :
    Calls Tryz.prog 12 #[.agg #[.slice a n c, .int .i64 off]] w fun e w' => e = .returned (.string (bs (fmtD xs off))) ∧ Below w.heap.size w w' := by
  have i2 : I64 [off] := fun x hx => by have := List.mem_singleton.1 hx; omega
  have l1 := words_len20 i1
  have l2 := words_len20 i2
  have e1 := h1.len
  have z1 := bs_size (wordsF xs)
  have z2 := bs_size (wordsF [off])
  have s1 : (bs (wordsF xs)).size ≤ 21000 := by omega
  have s2 : (bs (wordsF [off])).size ≤ 21000 := by simp only [List.length_cons, List.length_nil] at l2; omega
  clear l1 l2 e1 z1 z2
  have BA : Below w.heap.size w (w.alloc (.cells #[.slice a n c, .int .i64 off] 28)) := (Below.refl _ _).alloc (Nat.le_refl _) _
  have y0 := alloc_new w (.cells #[.slice a n c, .int .i64 off] 28)
  go_enter Tryz.func12, Tryz.ntmps12
  go_wp2_with fail
  generalize w.alloc (.cells #[.slice a n c, .int .i64 off] 28) = W at *
  refine Calmly.wp_region_mix 8 (.fl 0 <| .fl 1 <| .fl 5 <| .fl 6 <| .eff 2 <| .eff 3 <| .fl 4 <| .eff 7 <| .tail [8, 9]) (by kernel_rfl) (by kernel_rfl) ?_
  replace BA := BA.drew
  replace y0 := blk_keep y0 (Below.refl _ _).drew
  generalize W.drew = V at *
  have f0 := cell_block y0 0
  have f1 := cell_block y0 1
  have hk := Below.refl V.heap.size V
  go_wp2_with (first | ((with_reducible refine Calmly.is_fl ?_); refine Calmly.mix_fl rfl ?_ (fun _ _ => ?_); (first | exact .move _ | exact .load _ _ | exact .fieldAddr _ _ _ (by kernel_rfl) | exact .assign _ | exact .binOp _ _ _ _ _ rfl | exact .indexAddr _ _ _ | exact .len _ _ (by kernel_rfl) | exact .field _ _ _ | exact .extract _ _ | exact .pick _ _ _ | exact .build _ _ | exact .slice _ _ _ _ _ | exact .unOp _ _ _ rfl | exact .index _ _ _ | exact .max _ _ _ rfl rfl | exact .min _ _ _ rfl rfl | exact .nilCheck _ _ rfl)) | ((with_reducible refine Calmly.is_gl ?_); refine Calmly.mix_gl rfl rfl rfl ?_; first | ((first | with_reducible refine Calmly.gl_tt ?_ (fun _ _ => ?_) | with_reducible refine Calmly.gl_ff ?_ (fun _ _ => ?_)); (first | exact .move _ | exact .load _ _ | exact .fieldAddr _ _ _ (by kernel_rfl) | exact .assign _ | exact .binOp _ _ _ _ _ rfl | exact .indexAddr _ _ _ | exact .len _ _ (by kernel_rfl) | exact .field _ _ _ | exact .extract _ _ | exact .pick _ _ _ | exact .build _ _ | exact .slice _ _ _ _ _ | exact .unOp _ _ _ rfl | exact .index _ _ _ | exact .max _ _ _ rfl rfl | exact .min _ _ _ rfl rfl | exact .nilCheck _ _ rfl)) | with_reducible refine Calmly.gl_tf (fun _ _ => ?_) | with_reducible refine Calmly.gl_ft (fun _ _ => ?_)) | ((with_reducible refine Calmly.is_eff ?_); refine Calmly.mix_eff rfl (fun _ _ => ?_)) | ((with_reducible refine Calmly.is_gf ?_); refine Calmly.mix_gf rfl rfl rfl ?_; first | with_reducible refine Calmly.gf_tt (fun _ _ => ?_) | with_reducible refine Calmly.gf_ff (fun _ _ => ?_) | with_reducible refine Calmly.gf_tf (kept_of hk) (fun _ _ => ?_) | with_reducible refine Calmly.gf_ft (kept_of hk) (fun _ _ => ?_)) | ((with_reducible refine Calmly.is_tail ?_); first | refine Calmly.mix_tail_nil ?_ | refine Calmly.mix_tail rfl (fun _ _ => ?_)) | ((with_reducible refine Calmly.is_kept ?_); refine ⟨kept_of hk, ?_⟩) | (with_reducible refine Calmly.mix_alt ?_ ?_) | (refine kept_alloc hk (fun hk' hblk hge => ?_); replace hk := hk'; clear hk'))
  have hone := (OwI.one V (Nat.le_refl _) off).si
  refine (words_any _ 1 1 [off] _ (hv.keep (BA.trans (hk.mono BA.size))) hone (by omega) i2).mono ?_
  rintro e w1 ⟨rfl, hb1⟩
  replace hk := step_of hk hb1
  go_wp2_with (first | ((with_reducible refine Calmly.is_fl ?_); refine Calmly.mix_fl rfl ?_ (fun _ _ => ?_); (first | exact .move _ | exact .load _ _ | exact .fieldAddr _ _ _ (by kernel_rfl) | exact .assign _ | exact .binOp _ _ _ _ _ rfl | exact .indexAddr _ _ _ | exact .len _ _ (by kernel_rfl) | exact .field _ _ _ | exact .extract _ _ | exact .pick _ _ _ | exact .build _ _ | exact .slice _ _ _ _ _ | exact .unOp _ _ _ rfl | exact .index _ _ _ | exact .max _ _ _ rfl rfl | exact .min _ _ _ rfl rfl | exact .nilCheck _ _ rfl)) | ((with_reducible refine Calmly.is_gl ?_); refine Calmly.mix_gl rfl rfl rfl ?_; first | ((first | with_reducible refine Calmly.gl_tt ?_ (fun _ _ => ?_) | with_reducible refine Calmly.gl_ff ?_ (fun _ _ => ?_)); (first | exact .move _ | exact .load _ _ | exact .fieldAddr _ _ _ (by kernel_rfl) | exact .assign _ | exact .binOp _ _ _ _ _ rfl | exact .indexAddr _ _ _ | exact .len _ _ (by kernel_rfl) | exact .field _ _ _ | exact .extract _ _ | exact .pick _ _ _ | exact .build _ _ | exact .slice _ _ _ _ _ | exact .unOp _ _ _ rfl | exact .index _ _ _ | exact .max _ _ _ rfl rfl | exact .min _ _ _ rfl rfl | exact .nilCheck _ _ rfl)) | with_reducible refine Calmly.gl_tf (fun _ _ => ?_) | with_reducible refine Calmly.gl_ft (fun _ _ => ?_)) | ((with_reducible refine Calmly.is_eff ?_); refine Calmly.mix_eff rfl (fun _ _ => ?_)) | ((with_reducible refine Calmly.is_gf ?_); refine Calmly.mix_gf rfl rfl rfl ?_; first | with_reducible refine Calmly.gf_tt (fun _ _ => ?_) | with_reducible refine Calmly.gf_ff (fun _ _ => ?_) | with_reducible refine Calmly.gf_tf (kept_of hk) (fun _ _ => ?_) | with_reducible refine Calmly.gf_ft (kept_of hk) (fun _ _ => ?_)) | ((with_reducible refine Calmly.is_tail ?_); first | refine Calmly.mix_tail_nil ?_ | refine Calmly.mix_tail rfl (fun _ _ => ?_)) | ((with_reducible refine Calmly.is_kept ?_); refine ⟨kept_of hk, ?_⟩) | (with_reducible refine Calmly.mix_alt ?_ ?_))
  refine (words_any a n c xs w1 (hv.keep (BA.trans (hk.mono BA.size))) ((h1.keep BA).keep hk) (by omega) i1).mono ?_
  rintro e w2 ⟨rfl, hb2⟩
  replace hk := step_of hk hb2
  go_wp2_with (first | ((with_reducible refine Calmly.is_fl ?_); refine Calmly.mix_fl rfl ?_ (fun _ _ => ?_); (first | exact .move _ | exact .load _ _ | exact .fieldAddr _ _ _ (by kernel_rfl) | exact .assign _ | exact .binOp _ _ _ _ _ rfl | exact .indexAddr _ _ _ | exact .len _ _ (by kernel_rfl) | exact .field _ _ _ | exact .extract _ _ | exact .pick _ _ _ | exact .build _ _ | exact .slice _ _ _ _ _ | exact .unOp _ _ _ rfl | exact .index _ _ _ | exact .max _ _ _ rfl rfl | exact .min _ _ _ rfl rfl | exact .nilCheck _ _ rfl)) | ((with_reducible refine Calmly.is_gl ?_); refine Calmly.mix_gl rfl rfl rfl ?_; first | ((first | with_reducible refine Calmly.gl_tt ?_ (fun _ _ => ?_) | with_reducible refine Calmly.gl_ff ?_ (fun _ _ => ?_)); (first | exact .move _ | exact .load _ _ | exact .fieldAddr _ _ _ (by kernel_rfl) | exact .assign _ | exact .binOp _ _ _ _ _ rfl | exact .indexAddr _ _ _ | exact .len _ _ (by kernel_rfl) | exact .field _ _ _ | exact .extract _ _ | exact .pick _ _ _ | exact .build _ _ | exact .slice _ _ _ _ _ | exact .unOp _ _ _ rfl | exact .index _ _ _ | exact .max _ _ _ rfl rfl | exact .min _ _ _ rfl rfl | exact .nilCheck _ _ rfl)) | with_reducible refine Calmly.gl_tf (fun _ _ => ?_) | with_reducible refine Calmly.gl_ft (fun _ _ => ?_)) | ((with_reducible refine Calmly.is_eff ?_); refine Calmly.mix_eff rfl (fun _ _ => ?_)) | ((with_reducible refine Calmly.is_gf ?_); refine Calmly.mix_gf rfl rfl rfl ?_; first | with_reducible refine Calmly.gf_tt (fun _ _ => ?_) | with_reducible refine Calmly.gf_ff (fun _ _ => ?_) | with_reducible refine Calmly.gf_tf (kept_of hk) (fun _ _ => ?_) | with_reducible refine Calmly.gf_ft (kept_of hk) (fun _ _ => ?_)) | ((with_reducible refine Calmly.is_tail ?_); first | refine Calmly.mix_tail_nil ?_ | refine Calmly.mix_tail rfl (fun _ _ => ?_)) | ((with_reducible refine Calmly.is_kept ?_); refine ⟨kept_of hk, ?_⟩) | (with_reducible refine Calmly.mix_alt ?_ ?_))
  go_ret
  exact ⟨congrArg (fun x => Ending.returned (Value.string x)) (fmt_bs _ _), BA.trans (hk.mono BA.size)⟩
end Go.Proofs.YteigmjlfpmdmoaaGreatDoor

namespace Go.Proofs.YteigmjlfpmdmoaaGreatDoor
open Go.RowKit
open Calmly (Kept)

set_option maxRecDepth 100000 in
set_option maxHeartbeats 1000000 in
theorem ParseFrame_any (s : List UInt8) (w : World) (hv : Vars w) (hs : s.length ≤ 1000000) :
    Calls Tryz.prog 23 #[.string (bs s)] w fun e w' => ∃ a n c b m k, e = .returned (.tuple #[.agg #[.slice a n c, .slice b m k], .int .i64 (pfE s)]) ∧ SI w' a n c (pfV s).1 ∧ SI w' b m k (pfV s).2 ∧ Below w.heap.size w w' := by
  have hz := bs_size s
  have HZ := Lib.hid hz
  clear hz
  obtain ⟨E, hE⟩ : ∃ E, pfE s = E := ⟨_, rfl⟩
  obtain ⟨P, hP⟩ : ∃ P, pfV s = P := ⟨_, rfl⟩
  rw [hE, hP]
  have BA : Below w.heap.size w (w.alloc (.cells #[.slice none 0 0, .slice none 0 0] 52)) := (Below.refl _ _).alloc (Nat.le_refl _) _
  have y0 := alloc_new w (.cells #[.slice none 0 0, .slice none 0 0] 52)
  go_enter Tryz.func23, Tryz.ntmps23
  by_cases hl : 60000 < s.length
  · have hl2 : (60000 : Int) < ((bs s).size : Int) := by rw [HZ.out]; omega
    obtain ⟨q1, q2⟩ := pf_large hl
    obtain rfl : E = 8 := hE.symm.trans q1
    obtain rfl : P = ([], []) := hP.symm.trans q2
    clear hE hP q1 q2
    go_wp2_with fail
    have g0 := cell_block y0 0
    have g1 := cell_block y0 1
    exact bodyPost_ret (v := .tuple #[.agg #[.slice none 0 0, .slice none 0 0], .int .i64 8]) (by simp [results, Tryz.results23, go_sem, g0, g1]) rfl ⟨none, 0, 0, none, 0, 0, rfl, (OwI.nil _ 0).si, (OwI.nil _ 0).si, BA⟩
  · have hl2 : ¬ (60000 : Int) < ((bs s).size : Int) := by rw [HZ.out]; omega
    go_wp2_with fail
    generalize w.alloc (.cells #[.slice none 0 0, .slice none 0 0] 52) = W at *
    refine (both_any s 3 false W (hv.keep BA) hs (by omega)).mono ?_
    rintro e w1 ⟨a, n, c, b, m, k, rfl, hsi, h1⟩
    dsimp only
    replace y0 := blk_keep y0 h1
    replace BA := BA.trans (h1.mono BA.size)
    clear h1
    have hlt := blk_lt y0
    have f0 := cell_block y0 0
    have f1 := cell_block y0 1
    have r0 := frozen_block y0 0
    have r1 := frozen_block y0 1
    cases hb : bothF 3 false s with
    | none =>
      obtain ⟨q1, q2⟩ := pf_bad hl hb
      obtain rfl : E = 7 := hE.symm.trans q1
      obtain rfl : P = ([], []) := hP.symm.trans q2
      clear hb hsi hE hP q1 q2
      go_wp2_with fail
      obtain ⟨g0, g1, _, _⟩ := set2 (x := .slice none 0 0) (y := .slice none 0 0) (show _ = some (.slice none 0 0) from f0) (show _ = some (.slice none 0 0) from f1)
      have BX := (BA.setCell (p := ⟨w.heap.size, 0, none⟩) (Nat.le_refl _) (.slice none 0 0)).setCell (p := ⟨w.heap.size, 1, none⟩) (Nat.le_refl _) (.slice none 0 0)
      have BY := BX.alloc BX.size (.cells #[.slice a n c, .slice b m k] 103)
      replace g0 := cell_keep g0 ((Below.refl _ _).alloc (Nat.le_refl _) (.cells #[.slice a n c, .slice b m k] 103))
      replace g1 := cell_keep g1 ((Below.refl _ _).alloc (Nat.le_refl _) (.cells #[.slice a n c, .slice b m k] 103))
      exact bodyPost_ret (v := .tuple #[.agg #[.slice none 0 0, .slice none 0 0], .int .i64 7]) (by simp [results, Tryz.results23, go_sem, g0, g1]) rfl ⟨none, 0, 0, none, 0, 0, rfl, (OwI.nil _ 0).si, (OwI.nil _ 0).si, BY⟩
    | some p =>
      obtain ⟨x, y⟩ := p
      obtain ⟨s1, i1, s2, i2⟩ := hsi x y hb
      obtain ⟨q1, q2⟩ := pf_some hl hb
      have H1 := Lib.hid (hE.symm.trans q1)
      have H2 := Lib.hid (hP.symm.trans q2)
      clear hb hsi hE hP q1 q2
      go_wp2_with fail
      have hk : Below w1.heap.size w1 ((w1.alloc (.cells #[.slice a n c, .slice b m k] 103)).alloc (.cells #[.slice a n c, .slice b m k] 52)) := ((Below.refl _ _).alloc (Nat.le_refl _) _).alloc (by simp) _
      have y6 := alloc_new (w1.alloc (.cells #[.slice a n c, .slice b m k] 103)) (.cells #[.slice a n c, .slice b m k] 52)
      rw [World.size_alloc] at y6
      generalize (w1.alloc (.cells #[.slice a n c, .slice b m k] 103)).alloc (.cells #[.slice a n c, .slice b m k] 52) = V at *
      refine (mCheckFrame_any a b n c m k x y V (s1.keep hk) (s2.keep hk)).mono ?_
      rintro e w3 ⟨rfl, h3⟩
      have k3 := hk.trans (h3.mono hk.size)
      replace y0 := blk_keep y0 k3
      replace y6 := blk_keep y6 h3
      have s13 := s1.keep k3
      have s23 := s2.keep k3
      have i13 := i1.keep k3
      have i23 := i2.keep k3
      have B3 := BA.trans (k3.mono BA.size)
      have hT : BlkT w3 w.heap.size 52 := ⟨_, y0⟩
      obtain ⟨I, Z, hIZ⟩ : ∃ I Z, checkF x y = (I, Z) := ⟨_, _, rfl⟩
      rw [hIZ] at H1 H2 ⊢
      dsimp only at H1 H2 ⊢
      clear f0 f1 r0 r1 h3 k3 hk BA s1 s2 i1 i2
      have f0 := cell_block y0 0
      have f1 := cell_block y0 1
      have r0 := frozen_block y0 0
      have r1 := frozen_block y0 1
      have f6 := cell_block y6 0
      have f7 := cell_block y6 1
      by_cases hz : Z = 0
      · subst hz
        obtain rfl : E = 0 := H1.out
        obtain rfl : P = (x, y) := H2.out
        go_wp2_with fail
        obtain ⟨g0, g1, _, _⟩ := set2 (x := .slice a n c) (y := .slice b m k) (show _ = some (.slice none 0 0) from f0) (show _ = some (.slice none 0 0) from f1)
        have BX := (B3.setCell (p := ⟨w.heap.size, 0, none⟩) (Nat.le_refl _) (.slice a n c)).setCell (p := ⟨w.heap.size, 1, none⟩) (Nat.le_refl _) (.slice b m k)
        exact bodyPost_ret (v := .tuple #[.agg #[.slice a n c, .slice b m k], .int .i64 0]) (by simp [results, Tryz.results23, go_sem, g0, g1]) rfl ⟨a, n, c, b, m, k, rfl, Sl.set (Sl.set s13 i13 hT (by decide)) (i13.set _ _) (hT.set _ _) (by decide), Sl.set (Sl.set s23 i23 hT (by decide)) (i23.set _ _) (hT.set _ _) (by decide), BX⟩
      · have hz2 : (Z != 0) = true := by simpa using hz
        obtain rfl : E = Z := H1.out
        obtain rfl : P = ([], []) := by rw [H2.out, if_neg hz]
        have HZ2 := Lib.hid hz
        clear hz
        go_wp2_with fail
        obtain ⟨g0, g1, _, _⟩ := set2 (x := .slice none 0 0) (y := .slice none 0 0) (show _ = some (.slice none 0 0) from f0) (show _ = some (.slice none 0 0) from f1)
        have BX := (B3.setCell (p := ⟨w.heap.size, 0, none⟩) (Nat.le_refl _) (.slice none 0 0)).setCell (p := ⟨w.heap.size, 1, none⟩) (Nat.le_refl _) (.slice none 0 0)
        exact bodyPost_ret (v := .tuple #[.agg #[.slice none 0 0, .slice none 0 0], .int .i64 E]) (by simp [results, Tryz.results23, go_sem, g0, g1]) rfl ⟨none, 0, 0, none, 0, 0, rfl, (OwI.nil _ 0).si, (OwI.nil _ 0).si, BX⟩

set_option maxRecDepth 100000 in
set_option maxHeartbeats 1000000 in
theorem ParseDecay_any (s : List UInt8) (w : World) (hv : Vars w) (hs : s.length ≤ 1000000) :
    Calls Tryz.prog 11 #[.string (bs s)] w fun e w' => ∃ a n c, e = .returned (.tuple #[.agg #[.slice a n c, .int .i64 (pdV s).2], .int .i64 (pdE s)]) ∧ SI w' a n c (pdV s).1 ∧ Below w.heap.size w w' := by
  have hz := bs_size s
  have HZ := Lib.hid hz
  clear hz
  obtain ⟨E, hE⟩ : ∃ E, pdE s = E := ⟨_, rfl⟩
  obtain ⟨P, hP⟩ : ∃ P, pdV s = P := ⟨_, rfl⟩
  rw [hE, hP]
  have BA : Below w.heap.size w (w.alloc (.cells #[.slice none 0 0, .int .i64 0] 28)) := (Below.refl _ _).alloc (Nat.le_refl _) _
  have y0 := alloc_new w (.cells #[.slice none 0 0, .int .i64 0] 28)
  go_enter Tryz.func11, Tryz.ntmps11
  by_cases hl : 60000 < s.length
  · have hl2 : (60000 : Int) < ((bs s).size : Int) := by rw [HZ.out]; omega
    obtain ⟨q1, q2⟩ := pd_large hl
    obtain rfl : E = 8 := hE.symm.trans q1
    obtain rfl : P = ([], 0) := hP.symm.trans q2
    clear hE hP q1 q2
    go_wp2_with fail
    have g0 := cell_block y0 0
    have g1 := cell_block y0 1
    exact bodyPost_ret (v := .tuple #[.agg #[.slice none 0 0, .int .i64 0], .int .i64 8]) (by simp [results, Tryz.results11, go_sem, g0, g1]) rfl ⟨none, 0, 0, rfl, (OwI.nil _ 0).si, BA⟩
  · have hl2 : ¬ (60000 : Int) < ((bs s).size : Int) := by rw [HZ.out]; omega
    go_wp2_with fail
    generalize w.alloc (.cells #[.slice none 0 0, .int .i64 0] 28) = W at *
    refine (both_any s 5 true W (hv.keep BA) hs (by omega)).mono ?_
    rintro e w1 ⟨a, n, c, b, m, k, rfl, hsi, h1⟩
    dsimp only
    replace y0 := blk_keep y0 h1
    replace BA := BA.trans (h1.mono BA.size)
    clear h1
    have hlt := blk_lt y0
    have f0 := cell_block y0 0
    have f1 := cell_block y0 1
    have r0 := frozen_block y0 0
    have r1 := frozen_block y0 1
    have hbad : ∀ {X : Prop}, (E = 7 → P = ([], 0) → X) → pdE s = 7 ∧ pdV s = ([], 0) → X := fun h q => h (hE.symm.trans q.1) (hP.symm.trans q.2)
    cases hb : bothF 5 true s with
    | none =>
      obtain ⟨q1, q2⟩ := pd_bad hl hb
      obtain rfl : E = 7 := hE.symm.trans q1
      obtain rfl : P = ([], 0) := hP.symm.trans q2
      clear hb hsi hE hP q1 q2 hbad
      go_wp2_with fail
      obtain ⟨g0, g1, _, _⟩ := set2 (x := .slice none 0 0) (y := .int .i64 0) (show _ = some (.slice none 0 0) from f0) (show _ = some (.int .i64 0) from f1)
      have BX := (BA.setCell (p := ⟨w.heap.size, 0, none⟩) (Nat.le_refl _) (.slice none 0 0)).setCell (p := ⟨w.heap.size, 1, none⟩) (Nat.le_refl _) (.int .i64 0)
      have BY := BX.alloc BX.size (.cells #[.slice a n c, .slice b m k] 103)
      replace g0 := cell_keep g0 ((Below.refl _ _).alloc (Nat.le_refl _) (.cells #[.slice a n c, .slice b m k] 103))
      replace g1 := cell_keep g1 ((Below.refl _ _).alloc (Nat.le_refl _) (.cells #[.slice a n c, .slice b m k] 103))
      exact bodyPost_ret (v := .tuple #[.agg #[.slice none 0 0, .int .i64 0], .int .i64 7]) (by simp [results, Tryz.results11, go_sem, g0, g1]) rfl ⟨none, 0, 0, rfl, (OwI.nil _ 0).si, BY⟩
    | some p =>
      obtain ⟨x, y⟩ := p
      obtain ⟨s1, i1, s2, i2⟩ := hsi x y hb
      have hlen := s1.len
      by_cases hx : x.length = 1
      · obtain ⟨o, rfl⟩ : ∃ o, x = [o] := List.length_eq_one_iff.1 hx
        obtain rfl : n = 1 := hlen
        obtain ⟨q1, q2⟩ := pd_some hl hb
        have H1 := Lib.hid (hE.symm.trans q1)
        have H2 := Lib.hid (hP.symm.trans q2)
        clear hb hsi hE hP q1 q2 hbad hx
        obtain ⟨ba, oa, rfl, hca⟩ := s1.at_ (by omega)
        have e0 := hca 0 (by omega)
        have ca := s1.cap
        have ma := s1.max
        clear hca
        rw [Nat.add_zero] at e0
        go_wp2_with fail
        have hA : Below w1.heap.size w1 (w1.alloc (.cells #[.slice (some ⟨ba, oa, none⟩) 1 c, .slice b m k] 103)) := (Below.refl _ _).alloc (Nat.le_refl _) _
        have y4 := alloc_new w1 (.cells #[.slice (some ⟨ba, oa, none⟩) 1 c, .slice b m k] 103)
        generalize w1.alloc (.cells #[.slice (some ⟨ba, oa, none⟩) 1 c, .slice b m k] 103) = V0 at *
        refine Calmly.wp_region_mix 8 (.fl 0 <| .fl 1 <| .fl 2 <| .fl 3 <| .fl 4 <| .fl 5 <| .fl 6 <| .eff 7 <| .tail [8]) (by kernel_rfl) (by kernel_rfl) ?_
        replace hA := hA.drew
        replace y4 := blk_keep y4 (Below.refl _ _).drew
        generalize V0.drew = V at *
        replace e0 := cell_keep e0 hA
        have g4 := cell_block y4 0
        have g5 := cell_block y4 1
        have hk := Below.refl V.heap.size V
        go_wp2_with (first | ((with_reducible refine Calmly.is_fl ?_); refine Calmly.mix_fl rfl ?_ (fun _ _ => ?_); (first | exact .move _ | exact .load _ _ | exact .fieldAddr _ _ _ (by kernel_rfl) | exact .assign _ | exact .binOp _ _ _ _ _ rfl | exact .indexAddr _ _ _ | exact .len _ _ (by kernel_rfl) | exact .field _ _ _ | exact .extract _ _ | exact .pick _ _ _ | exact .build _ _ | exact .slice _ _ _ _ _ | exact .unOp _ _ _ rfl | exact .index _ _ _ | exact .max _ _ _ rfl rfl | exact .min _ _ _ rfl rfl | exact .nilCheck _ _ rfl)) | ((with_reducible refine Calmly.is_gl ?_); refine Calmly.mix_gl rfl rfl rfl ?_; first | ((first | with_reducible refine Calmly.gl_tt ?_ (fun _ _ => ?_) | with_reducible refine Calmly.gl_ff ?_ (fun _ _ => ?_)); (first | exact .move _ | exact .load _ _ | exact .fieldAddr _ _ _ (by kernel_rfl) | exact .assign _ | exact .binOp _ _ _ _ _ rfl | exact .indexAddr _ _ _ | exact .len _ _ (by kernel_rfl) | exact .field _ _ _ | exact .extract _ _ | exact .pick _ _ _ | exact .build _ _ | exact .slice _ _ _ _ _ | exact .unOp _ _ _ rfl | exact .index _ _ _ | exact .max _ _ _ rfl rfl | exact .min _ _ _ rfl rfl | exact .nilCheck _ _ rfl)) | with_reducible refine Calmly.gl_tf (fun _ _ => ?_) | with_reducible refine Calmly.gl_ft (fun _ _ => ?_)) | ((with_reducible refine Calmly.is_eff ?_); refine Calmly.mix_eff rfl (fun _ _ => ?_)) | ((with_reducible refine Calmly.is_gf ?_); refine Calmly.mix_gf rfl rfl rfl ?_; first | with_reducible refine Calmly.gf_tt (fun _ _ => ?_) | with_reducible refine Calmly.gf_ff (fun _ _ => ?_) | with_reducible refine Calmly.gf_tf (kept_of hk) (fun _ _ => ?_) | with_reducible refine Calmly.gf_ft (kept_of hk) (fun _ _ => ?_)) | ((with_reducible refine Calmly.is_tail ?_); first | refine Calmly.mix_tail_nil ?_ | refine Calmly.mix_tail rfl (fun _ _ => ?_)) | ((with_reducible refine Calmly.is_kept ?_); refine ⟨kept_of hk, ?_⟩) | (with_reducible refine Calmly.mix_alt ?_ ?_) | (refine kept_alloc hk (fun hk' hblk hge => ?_); replace hk := hk'; clear hk'))
        have hq : Below V.heap.size V (V.alloc (.cells #[.slice b m k, .int .i64 o] 28)) := (Below.refl _ _).alloc (Nat.le_refl _) _
        have y6 := alloc_new V (.cells #[.slice b m k, .int .i64 o] 28)
        generalize V.alloc (.cells #[.slice b m k, .int .i64 o] 28) = U at *
        refine (decayErr_any b m k y o U ((s2.keep hA).keep hq)).mono ?_
        rintro e w3 ⟨rfl, h3⟩
        have k2 := hA.trans (hq.mono hA.size)
        have k3 := k2.trans (h3.mono k2.size)
        replace y0 := blk_keep y0 k3
        replace y6 := blk_keep y6 h3
        have s23 := s2.keep k3
        have i23 := i2.keep k3
        have B3 := BA.trans (k3.mono BA.size)
        have hT : BlkT w3 w.heap.size 28 := ⟨_, y0⟩
        obtain ⟨Z, hZ⟩ : ∃ Z, decayE y o = Z := ⟨_, rfl⟩
        rw [hZ] at H1 H2 ⊢
        clear f0 f1 r0 r1 h3 k3 k2 BA s2 i2 s1 i1 hA g4 g5 e0 y4
        have f0 := cell_block y0 0
        have f1 := cell_block y0 1
        have r0 := frozen_block y0 0
        have r1 := frozen_block y0 1
        have f6 := cell_block y6 0
        have f7 := cell_block y6 1
        by_cases hz : Z = 0
        · subst hz
          obtain rfl : E = 0 := H1.out
          obtain rfl : P = (y, o) := H2.out
          go_wp2_with fail
          obtain ⟨g0, g1, _, _⟩ := set2 (x := .slice b m k) (y := .int .i64 o) (show _ = some (.slice none 0 0) from f0) (show _ = some (.int .i64 0) from f1)
          have BX := (B3.setCell (p := ⟨w.heap.size, 0, none⟩) (Nat.le_refl _) (.slice b m k)).setCell (p := ⟨w.heap.size, 1, none⟩) (Nat.le_refl _) (.int .i64 o)
          exact bodyPost_ret (v := .tuple #[.agg #[.slice b m k, .int .i64 o], .int .i64 0]) (by simp [results, Tryz.results11, go_sem, g0, g1]) rfl ⟨b, m, k, rfl, Sl.set (Sl.set s23 i23 hT (by decide)) (i23.set _ _) (hT.set _ _) (by decide), BX⟩
        · have hz2 : (Z != 0) = true := by simpa using hz
          obtain rfl : E = Z := H1.out
          obtain rfl : P = ([], 0) := by rw [H2.out, if_neg hz]
          have HZ2 := Lib.hid hz
          clear hz
          go_wp2_with fail
          obtain ⟨g0, g1, _, _⟩ := set2 (x := .slice none 0 0) (y := .int .i64 0) (show _ = some (.slice none 0 0) from f0) (show _ = some (.int .i64 0) from f1)
          have BX := (B3.setCell (p := ⟨w.heap.size, 0, none⟩) (Nat.le_refl _) (.slice none 0 0)).setCell (p := ⟨w.heap.size, 1, none⟩) (Nat.le_refl _) (.int .i64 0)
          exact bodyPost_ret (v := .tuple #[.agg #[.slice none 0 0, .int .i64 0], .int .i64 E]) (by simp [results, Tryz.results11, go_sem, g0, g1]) rfl ⟨none, 0, 0, rfl, (OwI.nil _ 0).si, BX⟩
      · obtain ⟨q1, q2⟩ := pd_many hl hb hx
        obtain rfl : E = 7 := hE.symm.trans q1
        obtain rfl : P = ([], 0) := hP.symm.trans q2
        have hn1 : ((n : Int) == 1) = false := by rw [beq_eq_false_iff_ne]; omega
        clear hb hsi hE hP q1 q2 hbad hx hlen
        go_wp2_with fail
        obtain ⟨g0, g1, _, _⟩ := set2 (x := .slice none 0 0) (y := .int .i64 0) (show _ = some (.slice none 0 0) from f0) (show _ = some (.int .i64 0) from f1)
        have BX := (BA.setCell (p := ⟨w.heap.size, 0, none⟩) (Nat.le_refl _) (.slice none 0 0)).setCell (p := ⟨w.heap.size, 1, none⟩) (Nat.le_refl _) (.int .i64 0)
        have BY := BX.alloc BX.size (.cells #[.slice a n c, .slice b m k] 103)
        replace g0 := cell_keep g0 ((Below.refl _ _).alloc (Nat.le_refl _) (.cells #[.slice a n c, .slice b m k] 103))
        replace g1 := cell_keep g1 ((Below.refl _ _).alloc (Nat.le_refl _) (.cells #[.slice a n c, .slice b m k] 103))
        exact bodyPost_ret (v := .tuple #[.agg #[.slice none 0 0, .int .i64 0], .int .i64 7]) (by simp [results, Tryz.results11, go_sem, g0, g1]) rfl ⟨none, 0, 0, rfl, (OwI.nil _ 0).si, BY⟩
end Go.Proofs.YteigmjlfpmdmoaaGreatDoor

namespace Go.Proofs.YteigmjlfpmdmoaaGreatDoor
open Go.RowKit
open Calmly (Kept)

set_option maxRecDepth 100000 in
set_option maxHeartbeats 4000000 in
theorem Cut_any (s : List UInt8) (c : UInt8) (w : World) (hs : s.length ≤ 1000000) :
    Calls Tryz.prog 81 #[.string (bs s), .int .u8 c.toNat] w fun e w' => ∃ a n cc, e = .returned (.slice a n cc) ∧ OwT w' w.heap.size a n cc (cutB c s) ∧ Below w.heap.size w w' := by
  have hz := bs_size s
  go_enter Tryz.func81, Tryz.ntmps81
  go_wp2_with fail
  go_loopw [5, 6, 7] (fun x y z wr => ∃ a n cc ws fr i, x = .slice a n cc ∧ y = .int .i64 ((fr : Nat) : Int) ∧ z = .int .i64 ((i : Nat) : Int) ∧ fr ≤ i ∧ i ≤ s.length ∧ OwT wr w.heap.size a n cc ws ∧ n ≤ i ∧ cutB c s = ws ++ cutB c (s.drop fr) ∧ c ∉ (s.drop fr).take (i - fr) ∧ Below w.heap.size w wr) (fun _ _ z _ => s.length - (intOf z).toNat)
  case atStart => exact ⟨none, 0, 0, [], 0, 0, rfl, rfl, rfl, Nat.le_refl _, Nat.zero_le _, OwT.nil _ _, Nat.le_refl _, rfl, by simp, Below.refl _ _⟩
  case round =>
    obtain ⟨a, n, cc, ws, fr, i, rfl, rfl, rfl, hfi, hi, ho, hn, hc, hno, hb⟩ := hrel
    have HC := Lib.hid hc
    have HNO := Lib.hid hno
    clear hc hno
    by_cases hlt : i < s.length
    · have h1 : (i : Int) < ((bs s).size : Int) := by rw [hz]; omega
      have hiz : i < (bs s).size := by omega
      have hg := bs_get s i hlt hiz
      by_cases hx : s[i]'hlt = c
      · have hq : (((bs s)[i]'hiz).toNat : Int) == (c.toNat : Int) := by rw [hg, hx]; simp
        have HX := Lib.hid hx
        clear hx hg
        go_wp2_with (at_builtin; rw [bs_extract]; refine appT rfl _ _ rfl ho rfl rfl (by omega) (by have := hb.size; omega) ?_; intro a' c' w1 ho1 hb1 hs1)
        go_roundw
        case rel =>
          have hd := drop_split hfi hlt
          rw [show s[i]'hlt = c from HX.out] at hd
          have hd2 := (congrArg (cutB c) hd).trans (cutB_at _ HNO.out)
          refine ⟨a', n + 1, c', ws ++ [(s.drop fr).take (i - fr)], i + 1, i + 1, rfl, by go_num, by go_num, Nat.le_refl _, by omega, ho1, by omega, ?_, by simp, hb.trans hb1⟩
          rw [HC.out, hd2]
          simp
        case measure => simp [intOf]; omega
      · have hq : ((((bs s)[i]'hiz).toNat : Int) == (c.toNat : Int)) = false := by
          rw [hg]
          simp only [beq_eq_false_iff_ne, ne_eq]
          intro h
          exact hx (UInt8.toNat_inj.1 (by omega))
        have HX := Lib.hid hx
        clear hx hg
        go_wp2_with fail
        go_roundw
        case rel =>
          refine ⟨a, n, cc, ws, fr, i + 1, rfl, rfl, by go_num, by omega, by omega, ho, by omega, HC.out, ?_, hb⟩
          rw [take_more hfi hlt]
          intro hm
          rcases List.mem_append.1 hm with h | h
          · exact HNO.out h
          · exact HX.out (List.mem_singleton.1 h).symm
        case measure => simp [intOf]; omega
    · obtain rfl : i = s.length := by omega
      have h1 : ¬ ((s.length : Nat) : Int) < ((bs s).size : Int) := by rw [hz]; omega
      go_wp2_with (at_builtin; rw [bs_extract]; refine appT rfl _ _ rfl ho rfl rfl (by omega) (by have := hb.size; omega) ?_; intro a' c' w1 ho1 hb1 hs1)
      go_ret
      refine ⟨a', n + 1, c', rfl, ?_, hb.trans hb1⟩
      have hno := HNO.out
      have e : (s.drop fr).take (s.length - fr) = s.drop fr := List.take_of_length_le (by simp)
      rw [e] at hno
      rw [e] at ho1
      rw [HC.out, cutB_one hno]
      exact ho1
end Go.Proofs.YteigmjlfpmdmoaaGreatDoor
