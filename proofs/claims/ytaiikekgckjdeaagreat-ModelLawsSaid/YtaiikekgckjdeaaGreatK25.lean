/- The masses that must be added: the closures of AddedFor. The masses that must be added: one after the other. -/
import Derived.Test.YtaiikekgckjdeaaGreatK24
import Derived.Laws.EntriesVeiled
namespace Go.Proofs.YtaiikekgckjdeaaGreat
open Go.RowKit
attribute [local go_sem] Oper.semAt_some
open Calmly (Kept)
def ms (n : Int) : Bool := wIn n 0 10000
theorem isMass_any (n : Int) (w : World) : Calls Tryz.prog 43 #[.int .i64 n] w fun e w' => e = .returned (.bool (ms n)) ∧ w = w' := by
  go_enter Tryz.func43, Tryz.ntmps43
  go_wp2_with fail
  refine (dWithin_any n 0 10000 _).mono ?_
  rintro e w1 ⟨rfl, rfl⟩
  go_wp2_with fail
  go_ret
  exact ⟨rfl, rfl⟩
set_option maxRecDepth 100000 in
set_option maxHeartbeats 2000000 in
theorem massErr_any (i : Nat) (I v : Int) (hI : I = (i : Int)) (pf po : Nat) (oa : Option Addr) (on oc : Nat) (own : List Int) (w : World) (h0 : w.heap[pf]? = some (.cells #[.func (.func 43) #[] #[]] 85)) (h1 : w.heap[po]? = some (.cells #[.slice oa on oc] 29)) (h2 : SI w oa on oc own) (hi : i < on) :
    Calls Tryz.prog 46 #[.int .i64 I, .int .i64 v, .pointer (some ⟨pf, 0, none⟩), .pointer (some ⟨po, 0, none⟩)] w fun e w' => e = .returned (.int .i64 (unlessE (ms v && ms (own[i]?.getD 0)) 2)) ∧ Below w.heap.size w w' := by
  subst hI
  have m1 := h2.max
  have c1 := h2.cap
  obtain ⟨x, hx⟩ : ∃ x, own[i]?.getD 0 = x := ⟨_, rfl⟩
  rw [hx]
  have HX := Lib.hid hx
  clear hx
  go_enter Tryz.func46, Tryz.ntmps46
  go_wp2_with fail
  refine Calmly.wp_region_mix 12 (.fl 0 <| .fl 1 <| .eff 2 <| .fl 3 <| .gl 4 <| .gl 5 <| .gl 6 <| .gl 7 <| .gl 8 <| .gf 9 <| .fl 10 <| .eff 11 <| .tail [12]) (by kernel_rfl) (by kernel_rfl) ?_
  have BD : Below w.heap.size w w.drew := (Below.refl _ _).drew
  have f0 := cell_block (blk_keep h0 BD) 0
  have f1 := cell_block (blk_keep h1 BD) 0
  obtain ⟨ob, oo, rfl, hoc⟩ := (h2.keep BD).at_ (by omega)
  have z0 := hoc i hi
  rw [HX.out] at z0
  have hi1 : (i : Int) < (on : Int) := by omega
  have hi0 : (0 : Int) ≤ (i : Int) := by omega
  clear hoc
  generalize w.drew = V at *
  have hk := Below.refl V.heap.size V
  go_wp2_with (first | ((with_reducible refine Calmly.is_fl ?_); refine Calmly.mix_fl rfl ?_ (fun _ _ => ?_); (first | exact .move _ | exact .load _ _ | exact .fieldAddr _ _ _ (by kernel_rfl) | exact .assign _ | exact .binOp _ _ _ _ _ rfl | exact .indexAddr _ _ _ | exact .len _ _ (by kernel_rfl) | exact .field _ _ _ | exact .extract _ _ | exact .pick _ _ _ | exact .build _ _ | exact .slice _ _ _ _ _ | exact .unOp _ _ _ rfl | exact .index _ _ _ | exact .max _ _ _ rfl rfl | exact .min _ _ _ rfl rfl | exact .nilCheck _ _ rfl)) | ((with_reducible refine Calmly.is_gl ?_); refine Calmly.mix_gl rfl rfl rfl ?_; first | ((first | with_reducible refine Calmly.gl_tt ?_ (fun _ _ => ?_) | with_reducible refine Calmly.gl_ff ?_ (fun _ _ => ?_)); (first | exact .move _ | exact .load _ _ | exact .fieldAddr _ _ _ (by kernel_rfl) | exact .assign _ | exact .binOp _ _ _ _ _ rfl | exact .indexAddr _ _ _ | exact .len _ _ (by kernel_rfl) | exact .field _ _ _ | exact .extract _ _ | exact .pick _ _ _ | exact .build _ _ | exact .slice _ _ _ _ _ | exact .unOp _ _ _ rfl | exact .index _ _ _ | exact .max _ _ _ rfl rfl | exact .min _ _ _ rfl rfl | exact .nilCheck _ _ rfl)) | with_reducible refine Calmly.gl_tf (fun _ _ => ?_) | with_reducible refine Calmly.gl_ft (fun _ _ => ?_)) | ((with_reducible refine Calmly.is_eff ?_); refine Calmly.mix_eff rfl (fun _ _ => ?_)) | ((with_reducible refine Calmly.is_gf ?_); refine Calmly.mix_gf rfl rfl rfl ?_; first | with_reducible refine Calmly.gf_tt (fun _ _ => ?_) | with_reducible refine Calmly.gf_ff (fun _ _ => ?_) | with_reducible refine Calmly.gf_tf (kept_of hk) (fun _ _ => ?_) | with_reducible refine Calmly.gf_ft (kept_of hk) (fun _ _ => ?_)) | ((with_reducible refine Calmly.is_tail ?_); first | refine Calmly.mix_tail_nil ?_ | refine Calmly.mix_tail rfl (fun _ _ => ?_)) | ((with_reducible refine Calmly.is_kept ?_); refine ⟨kept_of hk, ?_⟩) | (with_reducible refine Calmly.mix_alt ?_ ?_))
  refine (isMass_any v _).mono ?_
  rintro e w1 ⟨rfl, rfl⟩
  obtain ⟨A, hA⟩ : ∃ b, ms v = b := ⟨_, rfl⟩
  rw [hA]
  have HA := Lib.hid hA
  clear hA
  cases A
  · go_wp2_with (first | ((with_reducible refine Calmly.is_fl ?_); refine Calmly.mix_fl rfl ?_ (fun _ _ => ?_); (first | exact .move _ | exact .load _ _ | exact .fieldAddr _ _ _ (by kernel_rfl) | exact .assign _ | exact .binOp _ _ _ _ _ rfl | exact .indexAddr _ _ _ | exact .len _ _ (by kernel_rfl) | exact .field _ _ _ | exact .extract _ _ | exact .pick _ _ _ | exact .build _ _ | exact .slice _ _ _ _ _ | exact .unOp _ _ _ rfl | exact .index _ _ _ | exact .max _ _ _ rfl rfl | exact .min _ _ _ rfl rfl | exact .nilCheck _ _ rfl)) | ((with_reducible refine Calmly.is_gl ?_); refine Calmly.mix_gl rfl rfl rfl ?_; first | ((first | with_reducible refine Calmly.gl_tt ?_ (fun _ _ => ?_) | with_reducible refine Calmly.gl_ff ?_ (fun _ _ => ?_)); (first | exact .move _ | exact .load _ _ | exact .fieldAddr _ _ _ (by kernel_rfl) | exact .assign _ | exact .binOp _ _ _ _ _ rfl | exact .indexAddr _ _ _ | exact .len _ _ (by kernel_rfl) | exact .field _ _ _ | exact .extract _ _ | exact .pick _ _ _ | exact .build _ _ | exact .slice _ _ _ _ _ | exact .unOp _ _ _ rfl | exact .index _ _ _ | exact .max _ _ _ rfl rfl | exact .min _ _ _ rfl rfl | exact .nilCheck _ _ rfl)) | with_reducible refine Calmly.gl_tf (fun _ _ => ?_) | with_reducible refine Calmly.gl_ft (fun _ _ => ?_)) | ((with_reducible refine Calmly.is_eff ?_); refine Calmly.mix_eff rfl (fun _ _ => ?_)) | ((with_reducible refine Calmly.is_gf ?_); refine Calmly.mix_gf rfl rfl rfl ?_; first | with_reducible refine Calmly.gf_tt (fun _ _ => ?_) | with_reducible refine Calmly.gf_ff (fun _ _ => ?_) | with_reducible refine Calmly.gf_tf (kept_of hk) (fun _ _ => ?_) | with_reducible refine Calmly.gf_ft (kept_of hk) (fun _ _ => ?_)) | ((with_reducible refine Calmly.is_tail ?_); first | refine Calmly.mix_tail_nil ?_ | refine Calmly.mix_tail rfl (fun _ _ => ?_)) | ((with_reducible refine Calmly.is_kept ?_); refine ⟨kept_of hk, ?_⟩) | (with_reducible refine Calmly.mix_alt ?_ ?_))
    refine (dUnless_any _ 2 _).mono ?_
    rintro e w1 ⟨rfl, rfl⟩
    go_wp2_with (first | ((with_reducible refine Calmly.is_fl ?_); refine Calmly.mix_fl rfl ?_ (fun _ _ => ?_); (first | exact .move _ | exact .load _ _ | exact .fieldAddr _ _ _ (by kernel_rfl) | exact .assign _ | exact .binOp _ _ _ _ _ rfl | exact .indexAddr _ _ _ | exact .len _ _ (by kernel_rfl) | exact .field _ _ _ | exact .extract _ _ | exact .pick _ _ _ | exact .build _ _ | exact .slice _ _ _ _ _ | exact .unOp _ _ _ rfl | exact .index _ _ _ | exact .max _ _ _ rfl rfl | exact .min _ _ _ rfl rfl | exact .nilCheck _ _ rfl)) | ((with_reducible refine Calmly.is_gl ?_); refine Calmly.mix_gl rfl rfl rfl ?_; first | ((first | with_reducible refine Calmly.gl_tt ?_ (fun _ _ => ?_) | with_reducible refine Calmly.gl_ff ?_ (fun _ _ => ?_)); (first | exact .move _ | exact .load _ _ | exact .fieldAddr _ _ _ (by kernel_rfl) | exact .assign _ | exact .binOp _ _ _ _ _ rfl | exact .indexAddr _ _ _ | exact .len _ _ (by kernel_rfl) | exact .field _ _ _ | exact .extract _ _ | exact .pick _ _ _ | exact .build _ _ | exact .slice _ _ _ _ _ | exact .unOp _ _ _ rfl | exact .index _ _ _ | exact .max _ _ _ rfl rfl | exact .min _ _ _ rfl rfl | exact .nilCheck _ _ rfl)) | with_reducible refine Calmly.gl_tf (fun _ _ => ?_) | with_reducible refine Calmly.gl_ft (fun _ _ => ?_)) | ((with_reducible refine Calmly.is_eff ?_); refine Calmly.mix_eff rfl (fun _ _ => ?_)) | ((with_reducible refine Calmly.is_gf ?_); refine Calmly.mix_gf rfl rfl rfl ?_; first | with_reducible refine Calmly.gf_tt (fun _ _ => ?_) | with_reducible refine Calmly.gf_ff (fun _ _ => ?_) | with_reducible refine Calmly.gf_tf (kept_of hk) (fun _ _ => ?_) | with_reducible refine Calmly.gf_ft (kept_of hk) (fun _ _ => ?_)) | ((with_reducible refine Calmly.is_tail ?_); first | refine Calmly.mix_tail_nil ?_ | refine Calmly.mix_tail rfl (fun _ _ => ?_)) | ((with_reducible refine Calmly.is_kept ?_); refine ⟨kept_of hk, ?_⟩) | (with_reducible refine Calmly.mix_alt ?_ ?_))
    go_ret
    exact ⟨ret_int (by rw [HA.out]; rfl), BD⟩
  · go_wp2_with (first | ((with_reducible refine Calmly.is_fl ?_); refine Calmly.mix_fl rfl ?_ (fun _ _ => ?_); (first | exact .move _ | exact .load _ _ | exact .fieldAddr _ _ _ (by kernel_rfl) | exact .assign _ | exact .binOp _ _ _ _ _ rfl | exact .indexAddr _ _ _ | exact .len _ _ (by kernel_rfl) | exact .field _ _ _ | exact .extract _ _ | exact .pick _ _ _ | exact .build _ _ | exact .slice _ _ _ _ _ | exact .unOp _ _ _ rfl | exact .index _ _ _ | exact .max _ _ _ rfl rfl | exact .min _ _ _ rfl rfl | exact .nilCheck _ _ rfl)) | ((with_reducible refine Calmly.is_gl ?_); refine Calmly.mix_gl rfl rfl rfl ?_; first | ((first | with_reducible refine Calmly.gl_tt ?_ (fun _ _ => ?_) | with_reducible refine Calmly.gl_ff ?_ (fun _ _ => ?_)); (first | exact .move _ | exact .load _ _ | exact .fieldAddr _ _ _ (by kernel_rfl) | exact .assign _ | exact .binOp _ _ _ _ _ rfl | exact .indexAddr _ _ _ | exact .len _ _ (by kernel_rfl) | exact .field _ _ _ | exact .extract _ _ | exact .pick _ _ _ | exact .build _ _ | exact .slice _ _ _ _ _ | exact .unOp _ _ _ rfl | exact .index _ _ _ | exact .max _ _ _ rfl rfl | exact .min _ _ _ rfl rfl | exact .nilCheck _ _ rfl)) | with_reducible refine Calmly.gl_tf (fun _ _ => ?_) | with_reducible refine Calmly.gl_ft (fun _ _ => ?_)) | ((with_reducible refine Calmly.is_eff ?_); refine Calmly.mix_eff rfl (fun _ _ => ?_)) | ((with_reducible refine Calmly.is_gf ?_); refine Calmly.mix_gf rfl rfl rfl ?_; first | with_reducible refine Calmly.gf_tt (fun _ _ => ?_) | with_reducible refine Calmly.gf_ff (fun _ _ => ?_) | with_reducible refine Calmly.gf_tf (kept_of hk) (fun _ _ => ?_) | with_reducible refine Calmly.gf_ft (kept_of hk) (fun _ _ => ?_)) | ((with_reducible refine Calmly.is_tail ?_); first | refine Calmly.mix_tail_nil ?_ | refine Calmly.mix_tail rfl (fun _ _ => ?_)) | ((with_reducible refine Calmly.is_kept ?_); refine ⟨kept_of hk, ?_⟩) | (with_reducible refine Calmly.mix_alt ?_ ?_))
    refine (isMass_any x _).mono ?_
    rintro e w1 ⟨rfl, rfl⟩
    go_wp2_with (first | ((with_reducible refine Calmly.is_fl ?_); refine Calmly.mix_fl rfl ?_ (fun _ _ => ?_); (first | exact .move _ | exact .load _ _ | exact .fieldAddr _ _ _ (by kernel_rfl) | exact .assign _ | exact .binOp _ _ _ _ _ rfl | exact .indexAddr _ _ _ | exact .len _ _ (by kernel_rfl) | exact .field _ _ _ | exact .extract _ _ | exact .pick _ _ _ | exact .build _ _ | exact .slice _ _ _ _ _ | exact .unOp _ _ _ rfl | exact .index _ _ _ | exact .max _ _ _ rfl rfl | exact .min _ _ _ rfl rfl | exact .nilCheck _ _ rfl)) | ((with_reducible refine Calmly.is_gl ?_); refine Calmly.mix_gl rfl rfl rfl ?_; first | ((first | with_reducible refine Calmly.gl_tt ?_ (fun _ _ => ?_) | with_reducible refine Calmly.gl_ff ?_ (fun _ _ => ?_)); (first | exact .move _ | exact .load _ _ | exact .fieldAddr _ _ _ (by kernel_rfl) | exact .assign _ | exact .binOp _ _ _ _ _ rfl | exact .indexAddr _ _ _ | exact .len _ _ (by kernel_rfl) | exact .field _ _ _ | exact .extract _ _ | exact .pick _ _ _ | exact .build _ _ | exact .slice _ _ _ _ _ | exact .unOp _ _ _ rfl | exact .index _ _ _ | exact .max _ _ _ rfl rfl | exact .min _ _ _ rfl rfl | exact .nilCheck _ _ rfl)) | with_reducible refine Calmly.gl_tf (fun _ _ => ?_) | with_reducible refine Calmly.gl_ft (fun _ _ => ?_)) | ((with_reducible refine Calmly.is_eff ?_); refine Calmly.mix_eff rfl (fun _ _ => ?_)) | ((with_reducible refine Calmly.is_gf ?_); refine Calmly.mix_gf rfl rfl rfl ?_; first | with_reducible refine Calmly.gf_tt (fun _ _ => ?_) | with_reducible refine Calmly.gf_ff (fun _ _ => ?_) | with_reducible refine Calmly.gf_tf (kept_of hk) (fun _ _ => ?_) | with_reducible refine Calmly.gf_ft (kept_of hk) (fun _ _ => ?_)) | ((with_reducible refine Calmly.is_tail ?_); first | refine Calmly.mix_tail_nil ?_ | refine Calmly.mix_tail rfl (fun _ _ => ?_)) | ((with_reducible refine Calmly.is_kept ?_); refine ⟨kept_of hk, ?_⟩) | (with_reducible refine Calmly.mix_alt ?_ ?_))
    refine (dUnless_any _ 2 _).mono ?_
    rintro e w1 ⟨rfl, rfl⟩
    go_wp2_with (first | ((with_reducible refine Calmly.is_fl ?_); refine Calmly.mix_fl rfl ?_ (fun _ _ => ?_); (first | exact .move _ | exact .load _ _ | exact .fieldAddr _ _ _ (by kernel_rfl) | exact .assign _ | exact .binOp _ _ _ _ _ rfl | exact .indexAddr _ _ _ | exact .len _ _ (by kernel_rfl) | exact .field _ _ _ | exact .extract _ _ | exact .pick _ _ _ | exact .build _ _ | exact .slice _ _ _ _ _ | exact .unOp _ _ _ rfl | exact .index _ _ _ | exact .max _ _ _ rfl rfl | exact .min _ _ _ rfl rfl | exact .nilCheck _ _ rfl)) | ((with_reducible refine Calmly.is_gl ?_); refine Calmly.mix_gl rfl rfl rfl ?_; first | ((first | with_reducible refine Calmly.gl_tt ?_ (fun _ _ => ?_) | with_reducible refine Calmly.gl_ff ?_ (fun _ _ => ?_)); (first | exact .move _ | exact .load _ _ | exact .fieldAddr _ _ _ (by kernel_rfl) | exact .assign _ | exact .binOp _ _ _ _ _ rfl | exact .indexAddr _ _ _ | exact .len _ _ (by kernel_rfl) | exact .field _ _ _ | exact .extract _ _ | exact .pick _ _ _ | exact .build _ _ | exact .slice _ _ _ _ _ | exact .unOp _ _ _ rfl | exact .index _ _ _ | exact .max _ _ _ rfl rfl | exact .min _ _ _ rfl rfl | exact .nilCheck _ _ rfl)) | with_reducible refine Calmly.gl_tf (fun _ _ => ?_) | with_reducible refine Calmly.gl_ft (fun _ _ => ?_)) | ((with_reducible refine Calmly.is_eff ?_); refine Calmly.mix_eff rfl (fun _ _ => ?_)) | ((with_reducible refine Calmly.is_gf ?_); refine Calmly.mix_gf rfl rfl rfl ?_; first | with_reducible refine Calmly.gf_tt (fun _ _ => ?_) | with_reducible refine Calmly.gf_ff (fun _ _ => ?_) | with_reducible refine Calmly.gf_tf (kept_of hk) (fun _ _ => ?_) | with_reducible refine Calmly.gf_ft (kept_of hk) (fun _ _ => ?_)) | ((with_reducible refine Calmly.is_tail ?_); first | refine Calmly.mix_tail_nil ?_ | refine Calmly.mix_tail rfl (fun _ _ => ?_)) | ((with_reducible refine Calmly.is_kept ?_); refine ⟨kept_of hk, ?_⟩) | (with_reducible refine Calmly.mix_alt ?_ ?_))
    go_ret
    exact ⟨ret_int (by rw [HA.out]; rfl), BD⟩
end Go.Proofs.YtaiikekgckjdeaaGreat

namespace Go.Proofs.YtaiikekgckjdeaaGreat
open Go.RowKit
attribute [local go_sem] Oper.semAt_some
open Calmly (Kept)
def adX (F D v o : Int) : Int × Int := fracF (v * F - o * D) D
def adR (x : Int × Int) : Int := firstE [unlessE (szd x.1 1000000000) 8, unlessE (decide (0 ≤ x.1)) 22]
/-- What lies between two masses. -/
structure AdI (B b9 b5 b14 : Nat) (F D : Int) (oa : Option Addr) (on oc k : Nat) (L : List FcR) (W : World) : Prop where
  t9 : W.heap[b9]? = some (.cells #[.int .i64 F, .int .i64 D] 27)
  t5 : W.heap[b5]? = some (.cells #[.slice oa on oc] 29)
  t14 : ∃ av cv, W.heap[b14]? = some (.cells #[.slice av k cv] 39) ∧ OwFcR W (b9 + 1) av k cv L
theorem AdI.keep {B b9 b5 b14 : Nat} {F D : Int} {oa : Option Addr} {on oc k : Nat} {L : List FcR} {W W' : World} (h : AdI B b9 b5 b14 F D oa on oc k L W) (hb : Below W.heap.size W W') : AdI B b9 b5 b14 F D oa on oc k L W' := by
  obtain ⟨av, cv, h1, h2⟩ := h.t14
  exact ⟨blk_keep h.t9 hb, blk_keep h.t5 hb, av, cv, blk_keep h1 hb, h2.keep hb⟩
theorem kept_allocA {W w : World} {o : Obj} {G : Prop} (h : Below W.heap.size W w) (k : Below W.heap.size W (w.alloc o) → Below w.heap.size w (w.alloc o) → (w.alloc o).heap[w.heap.size]? = some o → G) : Kept W (w.alloc o) ∧ G :=
  ⟨kept_of (h.alloc h.size o), k (h.alloc h.size o) ((Below.refl _ _).alloc (Nat.le_refl _) _) (alloc_new w o)⟩
theorem two_set2 {w : World} {q : Nat} {a b x y : Value} {t : TypeId} (h : w.heap[q]? = some (.cells #[a, b] t)) : ((w.setCell ⟨q, 0, none⟩ x).setCell ⟨q, 1, none⟩ y).heap[q]? = some (.cells #[x, y] t) := by
  have := setBlk (setBlk h 0 x) 1 y
  simpa using this
theorem mulM {x y : Int} (hx : 0 ≤ x ∧ x ≤ 10000) (hy : 0 ≤ y ∧ y ≤ 1000000000) : 0 ≤ x * y ∧ x * y ≤ 10000000000000 := by
  have : (x * y).natAbs ≤ 10000 * 1000000000 := by
    rw [Int.natAbs_mul]
    exact Nat.mul_le_mul (by omega) (by omega)
  have h2 := Int.mul_nonneg hx.1 hy.1
  omega
/-- An append of a record to a row of the call's own: all other blocks are as they were. -/
theorem appRecG {P : Program} {ops : Array Oper} {rest : List Oper} {o : Oper} {a : Act} {Q : Exit → Act → World → Prop} {Wx : World} (w0 : World) (t e : TypeId) {z : Value} {k bytes : Nat} {new : List Value} (hW : Wx = w0.alloc (.cells new.toArray e)) (hgd : o.guard = none) (s x' : Operand)
    (ho : o.op = .call { callee := .builtin .append, args := #[s, x'], argTypes := #[t, t] }) (ht : P.underlying t = some (.slice e)) (hinfo : (P.info? e).map (fun i => (i.zero, i.size, i.bytes)) = some (some z, k, bytes)) (hzs : z.cells.size = k) (hsz : 0 < k) (hbb : bytes ≤ 128)
    {B : Nat} {av : Option Addr} {n c : Nat} {xs : List Value} (hown : w0.ownsRow B e k (.slice av n c) n xs) (hs : a.eval s = .slice av n c) (hx : a.eval x' = .slice (some ⟨w0.heap.size, 0, none⟩) 1 1) (hnl : new.length = k) (hone : ∀ u ∈ new, u.oneCell' = true)
    (hb1 : n + 1 ≤ 1099511627776) (hB : B ≤ w0.heap.size)
    (h : ∀ a' c' w', w'.ownsRow B e k (.slice a' (n + 1) c') (n + 1) (xs ++ new) → Below B w0 w' → (∀ b, b < w0.heap.size → (∀ g, av = some ⟨g, 0, none⟩ → b ≠ g) → w'.heap[b]? = w0.heap[b]?) → wpList P ops Q rest (a.put o.dst (.slice a' (n + 1) c')) w') :
    wpList P ops Q (o :: rest) a Wx := by
  subst hW
  obtain ⟨i0, hi, hz0, hz1, hz2⟩ := info_parts hinfo
  have hmul : (n + 1) * bytes ≤ 140737488355328 := by
    have := Nat.mul_le_mul hb1 hbb
    omega
  refine wpList_append_own _ hgd s x' t ho B e i0 z k bytes ht hi hz0 hz1 hz2 hzs hsz _ n xs hs (World.ownsRow.alloc hown _) ⟨w0.heap.size, 0, none⟩ 1 1 new hx (by rw [hnl, Nat.one_mul]) (by simpa using cells_new w0 new.toArray e) hone (by unfold maxLen; omega) hmul (by simp; omega) ?_
  intro v' w1 ho1 hg hn
  have hrow : ∀ j, (Value.slice av n c).ownBlock = some j → B ≤ j := fun j hj => (World.ownsRow.lt hown j hj).1
  have hb0 : Below B w0 (w0.alloc (.cells new.toArray e)) := (Below.refl _ _).alloc hB _
  have hb2 : Below B w0 w1 := hb0.trans (grown_below hg (by simp; omega) hrow)
  obtain ⟨a', c', rfl⟩ := owns_slice ho1
  refine h a' c' w1 ho1 hb2 (fun b hb hne => ?_)
  rw [hg.block b (by simp; omega) ?_]
  · exact Below.heap_alloc w0 _ b hb
  · intro he
    rcases hown.2 with ⟨h1, _⟩ | ⟨g', cap, cur, h1, _, h3, _⟩
    · cases h1; cases he
    · cases h1
      cases he
      exact hne g' rfl rfl
set_option maxRecDepth 100000 in
set_option maxHeartbeats 4000000 in
theorem add_any (B i b9 b5 b14 : Nat) (I v o F D : Int) (hI : I = (i : Int)) (oa : Option Addr) (on oc : Nat) (own : List Int) (L : List FcR) (w : World) (h : AdI B b9 b5 b14 F D oa on oc i L w) (h2 : SI w oa on oc own) (hi : i < on) (ho : own[i]?.getD 0 = o) (hn : on ≤ 7)
    (hF : 0 ≤ F ∧ F ≤ 1000000000) (hD : 0 < D ∧ D ≤ 1000000000) (hv : 0 ≤ v ∧ v ≤ 10000) (hov : 0 ≤ o ∧ o ≤ 10000) (hB : B ≤ b14) (hB9 : B ≤ b9) (hBw : B ≤ w.heap.size) :
    Calls Tryz.prog 47 #[.int .i64 I, .int .i64 v, .pointer (some ⟨b9, 0, none⟩), .pointer (some ⟨b5, 0, none⟩), .pointer (some ⟨b14, 0, none⟩)] w fun e w' => e = .returned (.int .i64 (adR (adX F D v o))) ∧ AdI B b9 b5 b14 F D oa on oc (i + 1) (L ++ [adX F D v o]) w' ∧ Below B w w' := by
  subst hI
  have m1 := h2.max
  have c1 := h2.cap
  have p1 := mulM hv hF
  have p2 := mulM hov (⟨by omega, hD.2⟩ : 0 ≤ D ∧ D ≤ 1000000000)
  obtain ⟨X1, e1⟩ : ∃ x, v * F = x := ⟨_, rfl⟩
  obtain ⟨X2, e2⟩ : ∃ x, o * D = x := ⟨_, rfl⟩
  have hax : adX F D v o = fracF (X1 - X2) D := by rw [adX, e1, e2]
  rw [e1] at p1
  rw [e2] at p2
  obtain ⟨NM, hNM⟩ : ∃ x, X1 - X2 = x := ⟨_, rfl⟩
  have hnb : -10000000000000 ≤ NM ∧ NM ≤ 10000000000000 := by omega
  rw [hNM] at hax
  have hg0 : (0 : Int) < Int.gcd NM D := by have := Int.gcd_pos_of_ne_zero_right (a := NM) (b := D) (by omega); omega
  have hg1 : (Int.gcd NM D : Int) ≤ D := Int.gcd_le_right NM (by omega)
  unfold fracF at hax
  obtain ⟨gg, hgg⟩ : ∃ g : Int, (Int.gcd NM D : Int) = g := ⟨_, rfl⟩
  rw [hgg] at hax hg0 hg1
  have hg2 : (gg == 0) = false := by simp; omega
  obtain ⟨P, hP⟩ : ∃ x, NM.tdiv gg = x := ⟨_, rfl⟩
  obtain ⟨Q, hQ⟩ : ∃ x, D.tdiv gg = x := ⟨_, rfl⟩
  have bb1 : -10000000000000 ≤ P ∧ P ≤ 10000000000000 := by
    have := Int.natAbs_tdiv_le_natAbs NM gg
    omega
  have bb2 : -10000000000000 ≤ Q ∧ Q ≤ 10000000000000 := by
    have := Int.natAbs_tdiv_le_natAbs D gg
    omega
  rw [hP, hQ] at hax
  rw [hax]
  obtain ⟨R0, hR0⟩ : ∃ x, adR (P, Q) = x := ⟨_, rfl⟩
  have hRR : R0 = firstE [unlessE (szd P 1000000000) 8, unlessE (decide (0 ≤ P)) 22] := hR0.symm
  rw [hR0]
  have HR := Lib.hid hRR
  have HG := Lib.hid hgg
  obtain ⟨bb11, bb12⟩ := bb1
  obtain ⟨bb21, bb22⟩ := bb2
  clear hax hR0 hRR hgg
  go_enter Tryz.func47, Tryz.ntmps47
  go_wp2_with fail
  refine Calmly.wp_region_mix 11 (.fl 0 <| .fl 1 <| .fl 2 <| .fl 3 <| .fl 4 <| .fl 5 <| .fl 6 <| .fl 7 <| .fl 8 <| .fl 9 <| .fl 10 <| .tail [11, 12]) (by kernel_rfl) (by kernel_rfl) ?_
  have BD : Below w.heap.size w w.drew := (Below.refl _ _).drew
  have hI1 := h.keep BD
  have h3 := h2.keep BD
  have BX := BD.mono hBw
  have hsz := BD.size
  clear BD
  generalize w.drew = V at *
  have hBV : B ≤ V.heap.size := by omega
  have f0 := cell_block hI1.t9 0
  have f1 := cell_block hI1.t9 1
  have f2 := cell_block hI1.t5 0
  obtain ⟨ob, oo, hoe, hoc⟩ := h3.at_ (by omega)
  subst hoe
  have z0 := hoc i hi
  rw [ho] at z0
  have hi1 : (i : Int) < (on : Int) := by omega
  have hi0 : (0 : Int) ≤ (i : Int) := by omega
  clear hoc ho
  have hk := Below.refl V.heap.size V
  go_wp2_with (first | ((with_reducible refine Calmly.is_fl ?_); refine Calmly.mix_fl rfl ?_ (fun _ _ => ?_); (first | exact .move _ | exact .load _ _ | exact .fieldAddr _ _ _ (by kernel_rfl) | exact .assign _ | exact .binOp _ _ _ _ _ rfl | exact .indexAddr _ _ _ | exact .len _ _ (by kernel_rfl) | exact .field _ _ _ | exact .extract _ _ | exact .pick _ _ _ | exact .build _ _ | exact .slice _ _ _ _ _ | exact .unOp _ _ _ rfl | exact .index _ _ _ | exact .max _ _ _ rfl rfl | exact .min _ _ _ rfl rfl | exact .nilCheck _ _ rfl)) | ((with_reducible refine Calmly.is_gl ?_); refine Calmly.mix_gl rfl rfl rfl ?_; first | ((first | with_reducible refine Calmly.gl_tt ?_ (fun _ _ => ?_) | with_reducible refine Calmly.gl_ff ?_ (fun _ _ => ?_)); (first | exact .move _ | exact .load _ _ | exact .fieldAddr _ _ _ (by kernel_rfl) | exact .assign _ | exact .binOp _ _ _ _ _ rfl | exact .indexAddr _ _ _ | exact .len _ _ (by kernel_rfl) | exact .field _ _ _ | exact .extract _ _ | exact .pick _ _ _ | exact .build _ _ | exact .slice _ _ _ _ _ | exact .unOp _ _ _ rfl | exact .index _ _ _ | exact .max _ _ _ rfl rfl | exact .min _ _ _ rfl rfl | exact .nilCheck _ _ rfl)) | with_reducible refine Calmly.gl_tf (fun _ _ => ?_) | with_reducible refine Calmly.gl_ft (fun _ _ => ?_)) | ((with_reducible refine Calmly.is_eff ?_); refine Calmly.mix_eff rfl (fun _ _ => ?_)) | ((with_reducible refine Calmly.is_gf ?_); refine Calmly.mix_gf rfl rfl rfl ?_; first | with_reducible refine Calmly.gf_tt (fun _ _ => ?_) | with_reducible refine Calmly.gf_ff (fun _ _ => ?_) | with_reducible refine Calmly.gf_tf (kept_of hk) (fun _ _ => ?_) | with_reducible refine Calmly.gf_ft (kept_of hk) (fun _ _ => ?_)) | ((with_reducible refine Calmly.is_tail ?_); first | refine Calmly.mix_tail_nil ?_ | refine Calmly.mix_tail rfl (fun _ _ => ?_)) | ((with_reducible refine Calmly.is_kept ?_); refine ⟨kept_of hk, ?_⟩) | (with_reducible refine Calmly.mix_alt ?_ ?_))
  refine (dDivisor_any NM D _ (by omega) (by omega) (by omega) (by omega)).mono ?_
  rintro e w1 ⟨rfl, nd, rfl⟩
  dsimp only
  rw [HG.out]
  have BN := drawn V nd
  have hI2 := hI1.keep BN
  have BX2 := BX.trans (BN.mono hBV)
  have hBV2 : B ≤ (V.drewN nd).heap.size := by have := BN.size; omega
  clear f0 f1 f2 z0 BN hI1 BX hk
  generalize V.drewN nd = V2 at *
  have f0 := cell_block hI2.t9 0
  have f1 := cell_block hI2.t9 1
  go_wp2_with fail
  refine Calmly.wp_region_mix 9 (.fl 0 <| .fl 1 <| .fl 2 <| .fl 3 <| .fl 4 <| .fl 5 <| .fl 6 <| .fl 7 <| .eff 8 <| .tail [9]) (by kernel_rfl) (by kernel_rfl) ?_
  have BD : Below V2.heap.size V2 V2.drew := (Below.refl _ _).drew
  replace hI2 := hI2.keep BD
  replace BX2 := BX2.trans (BD.mono hBV2)
  replace hBV2 := Nat.le_trans hBV2 BD.size
  clear BD f0 f1
  generalize V2.drew = V3 at *
  rename_i K3 hK3
  have hK3' := fun a w (h : Stop _) => hK3 a w h.out
  have HK3 := Lib.hid hK3'
  clear hK3 hK3'
  have f0 := cell_block hI2.t9 0
  have f1 := cell_block hI2.t9 1
  have hk := Below.refl V3.heap.size V3
  go_wp2_with (first | ((with_reducible refine Calmly.is_fl ?_); refine Calmly.mix_fl rfl ?_ (fun _ _ => ?_); (first | exact .move _ | exact .load _ _ | exact .fieldAddr _ _ _ (by kernel_rfl) | exact .assign _ | exact .binOp _ _ _ _ _ rfl | exact .indexAddr _ _ _ | exact .len _ _ (by kernel_rfl) | exact .field _ _ _ | exact .extract _ _ | exact .pick _ _ _ | exact .build _ _ | exact .slice _ _ _ _ _ | exact .unOp _ _ _ rfl | exact .index _ _ _ | exact .max _ _ _ rfl rfl | exact .min _ _ _ rfl rfl | exact .nilCheck _ _ rfl)) | ((with_reducible refine Calmly.is_gl ?_); refine Calmly.mix_gl rfl rfl rfl ?_; first | ((first | with_reducible refine Calmly.gl_tt ?_ (fun _ _ => ?_) | with_reducible refine Calmly.gl_ff ?_ (fun _ _ => ?_)); (first | exact .move _ | exact .load _ _ | exact .fieldAddr _ _ _ (by kernel_rfl) | exact .assign _ | exact .binOp _ _ _ _ _ rfl | exact .indexAddr _ _ _ | exact .len _ _ (by kernel_rfl) | exact .field _ _ _ | exact .extract _ _ | exact .pick _ _ _ | exact .build _ _ | exact .slice _ _ _ _ _ | exact .unOp _ _ _ rfl | exact .index _ _ _ | exact .max _ _ _ rfl rfl | exact .min _ _ _ rfl rfl | exact .nilCheck _ _ rfl)) | with_reducible refine Calmly.gl_tf (fun _ _ => ?_) | with_reducible refine Calmly.gl_ft (fun _ _ => ?_)) | ((with_reducible refine Calmly.is_eff ?_); refine Calmly.mix_eff rfl (fun _ _ => ?_)) | ((with_reducible refine Calmly.is_gf ?_); refine Calmly.mix_gf rfl rfl rfl ?_; first | with_reducible refine Calmly.gf_tt (fun _ _ => ?_) | with_reducible refine Calmly.gf_ff (fun _ _ => ?_) | with_reducible refine Calmly.gf_tf (kept_of hk) (fun _ _ => ?_) | with_reducible refine Calmly.gf_ft (kept_of hk) (fun _ _ => ?_)) | ((with_reducible refine Calmly.is_tail ?_); first | refine Calmly.mix_tail_nil ?_ | refine Calmly.mix_tail rfl (fun _ _ => ?_)) | ((with_reducible refine Calmly.is_kept ?_); refine ⟨kept_of hk, ?_⟩) | (with_reducible refine Calmly.mix_alt ?_ ?_) | (refine kept_allocA hk (fun hk' hA hblk => ?_); have hqz := hk.size; replace hk := hk'; clear hk'; have z15 := hblk; clear hblk hA; have z0 := cell_block z15 0; have z1 := cell_block z15 1; have x0' := frozen_block z15 0; have x1' := frozen_block z15 1; generalize World.alloc _ (.cells #[.int .i64 0, .int .i64 0] 27) = X15 at *))
  have z16 := two_set2 (x := .int .i64 P) (y := .int .i64 Q) z15
  have hk9 := (hk.setCell (p := ⟨V3.heap.size, 0, none⟩) (Nat.le_refl _) (.int .i64 P)).setCell (p := ⟨V3.heap.size, 1, none⟩) (Nat.le_refl _) (.int .i64 Q)
  have hI3 := hI2.keep hk9
  have BX3 := BX2.trans (hk9.mono hBV2)
  have hBV3 := Nat.le_trans hBV2 hk9.size
  obtain ⟨av, cv, t14, hO⟩ := hI2.t14
  have hgq : ∀ g, av = some ⟨g, 0, none⟩ → g < V3.heap.size := fun g hg => by subst hg; exact (World.ownsRow.lt hO g rfl).2
  replace t14 := blk_keep t14 hk9
  replace hO := hO.keep hk9
  refine HK3.out _ _ ⟨?_⟩
  clear HK3 hk z15 z0 z1 x0' x1' f0 f1 hqz hk9 hI2 BX2
  obtain ⟨q, hq⟩ : ∃ q, V3.heap.size = q := ⟨_, rfl⟩
  rw [hq] at z16 hBV2 hgq ⊢
  obtain ⟨W4, hW4⟩ : ∃ W4, (X15.setCell ⟨V3.heap.size, 0, none⟩ (.int .i64 P)).setCell ⟨V3.heap.size, 1, none⟩ (.int .i64 Q) = W4 := ⟨_, rfl⟩
  rw [hW4] at hI3 BX3 hBV3 t14 hO
  rw [hq] at hW4
  rw [hW4] at z16 ⊢
  clear hW4 hq
  have f0 := cell_block z16 0
  have f1 := cell_block z16 1
  have f2 := cell_block t14 0
  have o1 := hO.sr.max
  have o2 := hO.sr.cap
  have hmq : q < W4.heap.size := blk_lt z16
  have h9l : b9 < W4.heap.size := blk_lt hI3.t9
  have hne14 : ∀ g, av = some ⟨g, 0, none⟩ → b14 ≠ g := fun g hg => by
    subst hg
    exact BlkT.ne ⟨_, t14⟩ ((In.of_owns hO).blk g 0 rfl) (by decide)
  have hne9 : ∀ g, av = some ⟨g, 0, none⟩ → b9 ≠ g := fun g hg => by
    subst hg
    have := (World.ownsRow.lt hO g rfl).1
    omega
  have hne5 : ∀ g, av = some ⟨g, 0, none⟩ → b5 ≠ g := fun g hg => by
    subst hg
    exact BlkT.ne ⟨_, hI3.t5⟩ ((In.of_owns hO).blk g 0 rfl) (by decide)
  have hneq : ∀ g, av = some ⟨g, 0, none⟩ → q ≠ g := fun g hg => by have := hgq g hg; omega
  have HN14 := Lib.hid hne14
  have HN9 := Lib.hid hne9
  have HN5 := Lib.hid hne5
  have HNQ := Lib.hid hneq
  have hO' : World.ownsRow W4 (b9 + 1) 27 2 (.slice av i cv) i (L.flatMap encFcR) := hO
  have hB1 : b9 + 1 ≤ W4.heap.size := by omega
  clear hne14 hne9 hne5 hneq hgq
  go_wp2_with (first | (at_builtin; go_loud (refine appRecG W4 39 27 (new := [.int .i64 P, .int .i64 Q]) rfl rfl _ _ rfl Tryz.underlying39 Tryz.info_fcr rfl (by decide) (by decide) hO' rfl rfl rfl (oneCell_FcR (P, Q)) (by omega) hB1 (fun a9 c9 w9 ho9 hb9 hsm9 => ?_)); have k14 := (hsm9 b14 (blk_lt t14) HN14.out).trans t14; have f5 := cell_block k14 0; have f6 := frozen_block k14 0))
  have hne : ∀ b, b ≠ b14 → (w9.setCell ⟨b14, 0, none⟩ (.slice a9 (i + 1) c9)).heap[b]? = w9.heap[b]? := fun b hb => Below.heap_setCell _ _ _ _ hb
  have q14 := setBlk k14 0 (.slice a9 (i + 1) c9)
  have q9 : (w9.setCell ⟨b14, 0, none⟩ (.slice a9 (i + 1) c9)).heap[b9]? = some (.cells #[.int .i64 F, .int .i64 D] 27) := (hne _ (BlkT.ne ⟨_, hI3.t9⟩ ⟨_, t14⟩ (by decide))).trans ((hsm9 b9 h9l HN9.out).trans hI3.t9)
  have q5 : (w9.setCell ⟨b14, 0, none⟩ (.slice a9 (i + 1) c9)).heap[b5]? = some (.cells #[.slice (some ⟨ob, oo, none⟩) on oc] 29) := (hne _ (BlkT.ne ⟨_, hI3.t5⟩ ⟨_, t14⟩ (by decide))).trans ((hsm9 b5 (blk_lt hI3.t5) HN5.out).trans hI3.t5)
  have qq : (w9.setCell ⟨b14, 0, none⟩ (.slice a9 (i + 1) c9)).heap[q]? = some (.cells #[.int .i64 P, .int .i64 Q] 27) := (hne _ (BlkT.ne ⟨_, z16⟩ ⟨_, t14⟩ (by decide))).trans ((hsm9 q hmq HNQ.out).trans z16)
  have hO9 : OwFcR (w9.setCell ⟨b14, 0, none⟩ (.slice a9 (i + 1) c9)) (b9 + 1) a9 (i + 1) c9 (L ++ [(P, Q)]) := by
    have := owns_other (w' := w9.setCell ⟨b14, 0, none⟩ (.slice a9 (i + 1) c9)) ho9 hne ⟨_, k14⟩ (by decide)
    simpa [OwFcR, encFcR] using this
  have hI9 : AdI B b9 b5 b14 F D (some ⟨ob, oo, none⟩) on oc (i + 1) (L ++ [(P, Q)]) (w9.setCell ⟨b14, 0, none⟩ (.slice a9 (i + 1) c9)) := ⟨q9, q5, a9, c9, by simpa using q14, hO9⟩
  have B9 := (BX3.trans (hb9.mono (by omega))).setCell (p := ⟨b14, 0, none⟩) hB (.slice a9 (i + 1) c9)
  have hB9s : B ≤ (w9.setCell ⟨b14, 0, none⟩ (.slice a9 (i + 1) c9)).heap.size := Nat.le_trans hBw B9.size
  clear hne q14 q9 q5 hO9 k14 ho9 hb9 hsm9 z16 hO t14 hBV3 BX3 hI3 f0 f1 f2 o1 o2 hmq h9l HN14 HN9 HN5 HNQ hO' hB1 hBV2 h h2 h3
  (try clear f5)
  (try clear f6)
  generalize w9.setCell ⟨b14, 0, none⟩ (.slice a9 (i + 1) c9) = W5 at *
  refine Calmly.wp_region_mix 10 (.fl 0 <| .fl 1 <| .fl 4 <| .fl 5 <| .fl 6 <| .eff 2 <| .eff 3 <| .eff 7 <| .eff 8 <| .eff 9 <| .tail [10]) (by kernel_rfl) (by kernel_rfl) ?_
  have BD : Below W5.heap.size W5 W5.drew := (Below.refl _ _).drew
  replace hI9 := hI9.keep BD
  replace qq := blk_keep qq BD
  replace B9 := B9.trans (BD.mono hB9s)
  replace hB9s := Nat.le_trans hB9s BD.size
  clear BD
  generalize W5.drew = W6 at *
  have f0 := cell_block qq 0
  have hk := Below.refl W6.heap.size W6
  go_wp2_with (first | ((with_reducible refine Calmly.is_fl ?_); refine Calmly.mix_fl rfl ?_ (fun _ _ => ?_); (first | exact .move _ | exact .load _ _ | exact .fieldAddr _ _ _ (by kernel_rfl) | exact .assign _ | exact .binOp _ _ _ _ _ rfl | exact .indexAddr _ _ _ | exact .len _ _ (by kernel_rfl) | exact .field _ _ _ | exact .extract _ _ | exact .pick _ _ _ | exact .build _ _ | exact .slice _ _ _ _ _ | exact .unOp _ _ _ rfl | exact .index _ _ _ | exact .max _ _ _ rfl rfl | exact .min _ _ _ rfl rfl | exact .nilCheck _ _ rfl)) | ((with_reducible refine Calmly.is_gl ?_); refine Calmly.mix_gl rfl rfl rfl ?_; first | ((first | with_reducible refine Calmly.gl_tt ?_ (fun _ _ => ?_) | with_reducible refine Calmly.gl_ff ?_ (fun _ _ => ?_)); (first | exact .move _ | exact .load _ _ | exact .fieldAddr _ _ _ (by kernel_rfl) | exact .assign _ | exact .binOp _ _ _ _ _ rfl | exact .indexAddr _ _ _ | exact .len _ _ (by kernel_rfl) | exact .field _ _ _ | exact .extract _ _ | exact .pick _ _ _ | exact .build _ _ | exact .slice _ _ _ _ _ | exact .unOp _ _ _ rfl | exact .index _ _ _ | exact .max _ _ _ rfl rfl | exact .min _ _ _ rfl rfl | exact .nilCheck _ _ rfl)) | with_reducible refine Calmly.gl_tf (fun _ _ => ?_) | with_reducible refine Calmly.gl_ft (fun _ _ => ?_)) | ((with_reducible refine Calmly.is_eff ?_); refine Calmly.mix_eff rfl (fun _ _ => ?_)) | ((with_reducible refine Calmly.is_gf ?_); refine Calmly.mix_gf rfl rfl rfl ?_; first | with_reducible refine Calmly.gf_tt (fun _ _ => ?_) | with_reducible refine Calmly.gf_ff (fun _ _ => ?_) | with_reducible refine Calmly.gf_tf (kept_of hk) (fun _ _ => ?_) | with_reducible refine Calmly.gf_ft (kept_of hk) (fun _ _ => ?_)) | ((with_reducible refine Calmly.is_tail ?_); first | refine Calmly.mix_tail_nil ?_ | refine Calmly.mix_tail rfl (fun _ _ => ?_)) | ((with_reducible refine Calmly.is_kept ?_); refine ⟨kept_of hk, ?_⟩) | (with_reducible refine Calmly.mix_alt ?_ ?_))
  refine (dSized_any P 1000000000 _ (by decide) (by decide)).mono ?_
  rintro e w1 ⟨rfl, rfl⟩
  dsimp only
  obtain ⟨s1, hs1⟩ : ∃ s, szd P 1000000000 = s := ⟨_, rfl⟩
  rw [hs1]
  rw [hs1] at HR
  clear hs1
  go_wp2_with (first | ((with_reducible refine Calmly.is_fl ?_); refine Calmly.mix_fl rfl ?_ (fun _ _ => ?_); (first | exact .move _ | exact .load _ _ | exact .fieldAddr _ _ _ (by kernel_rfl) | exact .assign _ | exact .binOp _ _ _ _ _ rfl | exact .indexAddr _ _ _ | exact .len _ _ (by kernel_rfl) | exact .field _ _ _ | exact .extract _ _ | exact .pick _ _ _ | exact .build _ _ | exact .slice _ _ _ _ _ | exact .unOp _ _ _ rfl | exact .index _ _ _ | exact .max _ _ _ rfl rfl | exact .min _ _ _ rfl rfl | exact .nilCheck _ _ rfl)) | ((with_reducible refine Calmly.is_gl ?_); refine Calmly.mix_gl rfl rfl rfl ?_; first | ((first | with_reducible refine Calmly.gl_tt ?_ (fun _ _ => ?_) | with_reducible refine Calmly.gl_ff ?_ (fun _ _ => ?_)); (first | exact .move _ | exact .load _ _ | exact .fieldAddr _ _ _ (by kernel_rfl) | exact .assign _ | exact .binOp _ _ _ _ _ rfl | exact .indexAddr _ _ _ | exact .len _ _ (by kernel_rfl) | exact .field _ _ _ | exact .extract _ _ | exact .pick _ _ _ | exact .build _ _ | exact .slice _ _ _ _ _ | exact .unOp _ _ _ rfl | exact .index _ _ _ | exact .max _ _ _ rfl rfl | exact .min _ _ _ rfl rfl | exact .nilCheck _ _ rfl)) | with_reducible refine Calmly.gl_tf (fun _ _ => ?_) | with_reducible refine Calmly.gl_ft (fun _ _ => ?_)) | ((with_reducible refine Calmly.is_eff ?_); refine Calmly.mix_eff rfl (fun _ _ => ?_)) | ((with_reducible refine Calmly.is_gf ?_); refine Calmly.mix_gf rfl rfl rfl ?_; first | with_reducible refine Calmly.gf_tt (fun _ _ => ?_) | with_reducible refine Calmly.gf_ff (fun _ _ => ?_) | with_reducible refine Calmly.gf_tf (kept_of hk) (fun _ _ => ?_) | with_reducible refine Calmly.gf_ft (kept_of hk) (fun _ _ => ?_)) | ((with_reducible refine Calmly.is_tail ?_); first | refine Calmly.mix_tail_nil ?_ | refine Calmly.mix_tail rfl (fun _ _ => ?_)) | ((with_reducible refine Calmly.is_kept ?_); refine ⟨kept_of hk, ?_⟩) | (with_reducible refine Calmly.mix_alt ?_ ?_))
  refine (dUnless_any s1 8 _).mono ?_
  rintro e w1 ⟨rfl, rfl⟩
  dsimp only
  obtain ⟨u1, hu1⟩ : ∃ s, unlessE s1 8 = s := ⟨_, rfl⟩
  rw [hu1]
  rw [hu1] at HR
  clear hu1
  go_wp2_with (first | ((with_reducible refine Calmly.is_fl ?_); refine Calmly.mix_fl rfl ?_ (fun _ _ => ?_); (first | exact .move _ | exact .load _ _ | exact .fieldAddr _ _ _ (by kernel_rfl) | exact .assign _ | exact .binOp _ _ _ _ _ rfl | exact .indexAddr _ _ _ | exact .len _ _ (by kernel_rfl) | exact .field _ _ _ | exact .extract _ _ | exact .pick _ _ _ | exact .build _ _ | exact .slice _ _ _ _ _ | exact .unOp _ _ _ rfl | exact .index _ _ _ | exact .max _ _ _ rfl rfl | exact .min _ _ _ rfl rfl | exact .nilCheck _ _ rfl)) | ((with_reducible refine Calmly.is_gl ?_); refine Calmly.mix_gl rfl rfl rfl ?_; first | ((first | with_reducible refine Calmly.gl_tt ?_ (fun _ _ => ?_) | with_reducible refine Calmly.gl_ff ?_ (fun _ _ => ?_)); (first | exact .move _ | exact .load _ _ | exact .fieldAddr _ _ _ (by kernel_rfl) | exact .assign _ | exact .binOp _ _ _ _ _ rfl | exact .indexAddr _ _ _ | exact .len _ _ (by kernel_rfl) | exact .field _ _ _ | exact .extract _ _ | exact .pick _ _ _ | exact .build _ _ | exact .slice _ _ _ _ _ | exact .unOp _ _ _ rfl | exact .index _ _ _ | exact .max _ _ _ rfl rfl | exact .min _ _ _ rfl rfl | exact .nilCheck _ _ rfl)) | with_reducible refine Calmly.gl_tf (fun _ _ => ?_) | with_reducible refine Calmly.gl_ft (fun _ _ => ?_)) | ((with_reducible refine Calmly.is_eff ?_); refine Calmly.mix_eff rfl (fun _ _ => ?_)) | ((with_reducible refine Calmly.is_gf ?_); refine Calmly.mix_gf rfl rfl rfl ?_; first | with_reducible refine Calmly.gf_tt (fun _ _ => ?_) | with_reducible refine Calmly.gf_ff (fun _ _ => ?_) | with_reducible refine Calmly.gf_tf (kept_of hk) (fun _ _ => ?_) | with_reducible refine Calmly.gf_ft (kept_of hk) (fun _ _ => ?_)) | ((with_reducible refine Calmly.is_tail ?_); first | refine Calmly.mix_tail_nil ?_ | refine Calmly.mix_tail rfl (fun _ _ => ?_)) | ((with_reducible refine Calmly.is_kept ?_); refine ⟨kept_of hk, ?_⟩) | (with_reducible refine Calmly.mix_alt ?_ ?_))
  refine (dUnless_any _ 22 _).mono ?_
  rintro e w1 ⟨rfl, rfl⟩
  dsimp only
  go_wp2_with (first | ((with_reducible refine Calmly.is_fl ?_); refine Calmly.mix_fl rfl ?_ (fun _ _ => ?_); (first | exact .move _ | exact .load _ _ | exact .fieldAddr _ _ _ (by kernel_rfl) | exact .assign _ | exact .binOp _ _ _ _ _ rfl | exact .indexAddr _ _ _ | exact .len _ _ (by kernel_rfl) | exact .field _ _ _ | exact .extract _ _ | exact .pick _ _ _ | exact .build _ _ | exact .slice _ _ _ _ _ | exact .unOp _ _ _ rfl | exact .index _ _ _ | exact .max _ _ _ rfl rfl | exact .min _ _ _ rfl rfl | exact .nilCheck _ _ rfl)) | ((with_reducible refine Calmly.is_gl ?_); refine Calmly.mix_gl rfl rfl rfl ?_; first | ((first | with_reducible refine Calmly.gl_tt ?_ (fun _ _ => ?_) | with_reducible refine Calmly.gl_ff ?_ (fun _ _ => ?_)); (first | exact .move _ | exact .load _ _ | exact .fieldAddr _ _ _ (by kernel_rfl) | exact .assign _ | exact .binOp _ _ _ _ _ rfl | exact .indexAddr _ _ _ | exact .len _ _ (by kernel_rfl) | exact .field _ _ _ | exact .extract _ _ | exact .pick _ _ _ | exact .build _ _ | exact .slice _ _ _ _ _ | exact .unOp _ _ _ rfl | exact .index _ _ _ | exact .max _ _ _ rfl rfl | exact .min _ _ _ rfl rfl | exact .nilCheck _ _ rfl)) | with_reducible refine Calmly.gl_tf (fun _ _ => ?_) | with_reducible refine Calmly.gl_ft (fun _ _ => ?_)) | ((with_reducible refine Calmly.is_eff ?_); refine Calmly.mix_eff rfl (fun _ _ => ?_)) | ((with_reducible refine Calmly.is_gf ?_); refine Calmly.mix_gf rfl rfl rfl ?_; first | with_reducible refine Calmly.gf_tt (fun _ _ => ?_) | with_reducible refine Calmly.gf_ff (fun _ _ => ?_) | with_reducible refine Calmly.gf_tf (kept_of hk) (fun _ _ => ?_) | with_reducible refine Calmly.gf_ft (kept_of hk) (fun _ _ => ?_)) | ((with_reducible refine Calmly.is_tail ?_); first | refine Calmly.mix_tail_nil ?_ | refine Calmly.mix_tail rfl (fun _ _ => ?_)) | ((with_reducible refine Calmly.is_kept ?_); refine ⟨kept_of hk, ?_⟩) | (with_reducible refine Calmly.mix_alt ?_ ?_) | (refine kept_alloc hk (fun hk' hblk hge => ?_); replace hk := hk'; clear hk'))
  refine (dFirst_any _ 2 2 _ _ (SI.two _ _ _ _ (by simp))).mono ?_
  rintro e w1 ⟨rfl, rfl⟩
  dsimp only
  go_wp2_with (first | ((with_reducible refine Calmly.is_fl ?_); refine Calmly.mix_fl rfl ?_ (fun _ _ => ?_); (first | exact .move _ | exact .load _ _ | exact .fieldAddr _ _ _ (by kernel_rfl) | exact .assign _ | exact .binOp _ _ _ _ _ rfl | exact .indexAddr _ _ _ | exact .len _ _ (by kernel_rfl) | exact .field _ _ _ | exact .extract _ _ | exact .pick _ _ _ | exact .build _ _ | exact .slice _ _ _ _ _ | exact .unOp _ _ _ rfl | exact .index _ _ _ | exact .max _ _ _ rfl rfl | exact .min _ _ _ rfl rfl | exact .nilCheck _ _ rfl)) | ((with_reducible refine Calmly.is_gl ?_); refine Calmly.mix_gl rfl rfl rfl ?_; first | ((first | with_reducible refine Calmly.gl_tt ?_ (fun _ _ => ?_) | with_reducible refine Calmly.gl_ff ?_ (fun _ _ => ?_)); (first | exact .move _ | exact .load _ _ | exact .fieldAddr _ _ _ (by kernel_rfl) | exact .assign _ | exact .binOp _ _ _ _ _ rfl | exact .indexAddr _ _ _ | exact .len _ _ (by kernel_rfl) | exact .field _ _ _ | exact .extract _ _ | exact .pick _ _ _ | exact .build _ _ | exact .slice _ _ _ _ _ | exact .unOp _ _ _ rfl | exact .index _ _ _ | exact .max _ _ _ rfl rfl | exact .min _ _ _ rfl rfl | exact .nilCheck _ _ rfl)) | with_reducible refine Calmly.gl_tf (fun _ _ => ?_) | with_reducible refine Calmly.gl_ft (fun _ _ => ?_)) | ((with_reducible refine Calmly.is_eff ?_); refine Calmly.mix_eff rfl (fun _ _ => ?_)) | ((with_reducible refine Calmly.is_gf ?_); refine Calmly.mix_gf rfl rfl rfl ?_; first | with_reducible refine Calmly.gf_tt (fun _ _ => ?_) | with_reducible refine Calmly.gf_ff (fun _ _ => ?_) | with_reducible refine Calmly.gf_tf (kept_of hk) (fun _ _ => ?_) | with_reducible refine Calmly.gf_ft (kept_of hk) (fun _ _ => ?_)) | ((with_reducible refine Calmly.is_tail ?_); first | refine Calmly.mix_tail_nil ?_ | refine Calmly.mix_tail rfl (fun _ _ => ?_)) | ((with_reducible refine Calmly.is_kept ?_); refine ⟨kept_of hk, ?_⟩) | (with_reducible refine Calmly.mix_alt ?_ ?_))
  go_ret
  exact ⟨ret_int HR.out.symm, hI9.keep hk, B9.trans (hk.mono hB9s)⟩
end Go.Proofs.YtaiikekgckjdeaaGreat
