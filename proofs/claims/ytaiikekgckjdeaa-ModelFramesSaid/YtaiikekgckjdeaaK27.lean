/- Frames are as specified: the law's walk. Printed by gen_f9.py. -/
import Derived.Test.YtaiikekgckjdeaaK26
namespace Go.Proofs.Ytaiikekgckjdeaa
open Go.RowKit
open Calmly (Kept)
/-- What the law keeps of what it was handed. -/
structure KsK (FE : Int) (M : List (List Int)) (ka : Option Addr) (kn kc : Nat) (W : World) : Prop where
  ex : FE = 0 → ∃ raw, LlV W ka kn kc raw M
theorem KsK.keep {FE : Int} {M : List (List Int)} {ka : Option Addr} {kn kc : Nat} {W W' : World} (h : KsK FE M ka kn kc W) (hb : Below W.heap.size W W') : KsK FE M ka kn kc W' :=
  ⟨fun e => by obtain ⟨raw, h5⟩ := h.ex e; exact ⟨raw, h5.keep hb⟩⟩
structure XsK (DE : Int) (l : List FcR) (xa : Option Addr) (xn xc : Nat) (W : World) : Prop where
  ex : DE = 0 → SFcR W xa xn xc l
theorem XsK.keep {DE : Int} {l : List FcR} {xa : Option Addr} {xn xc : Nat} {W W' : World} (h : XsK DE l xa xn xc W) (hb : Below W.heap.size W W') : XsK DE l xa xn xc W' := ⟨fun e => (h.ex e).keep hb⟩
structure BsK (FE : Int) (s : St) (x : StR) (W : World) : Prop where
  st : FE = 0 → StV W x s
  no : FE ≠ 0 → x = st0
theorem BsK.keep {FE : Int} {s : St} {x : StR} {W W' : World} (h : BsK FE s x W) (hb : Below W.heap.size W W') : BsK FE s x W' := ⟨fun e => (h.st e).keep hb, h.no⟩
theorem kept_allocF {W w : World} {o : Obj} {G : Prop} (h : Below W.heap.size W w) (k : Below W.heap.size W (w.alloc o) → Below w.heap.size w (w.alloc o) → (w.alloc o).heap[w.heap.size]? = some o → G) : Kept W (w.alloc o) ∧ G :=
  ⟨kept_of (h.alloc h.size o), k (h.alloc h.size o) ((Below.refl _ _).alloc (Nat.le_refl _) _) (alloc_new w o)⟩
theorem StV.zeroF (w : World) : StV w ((none, 0, 0), (none, 0, 0), (none, 0, 0)) ([], [], []) := ⟨Sl.nil _ _, .inl rfl, Sl.nil _ _, .inl rfl, ⟨[], ⟨SHoR.nil _, rfl, fun i hi => absurd hi (by simp)⟩⟩, .inl rfl⟩
theorem wp_actF {P : Program} {c : Code} {Q : Exit → Act → World → Prop} {a : Act} {w : World} (S : Act → Prop) (hS : S a) (h : ∀ b, S b → c.wp P Q b w) : c.wp P Q a w := h a hS
theorem drS_at (fs : List Fl) (p : List Int) {k : Nat} (h : k < p.length) : (drS fs p)[k]?.getD fcr0 = drV fs p k := by simp [drS, h]
theorem drV_parts {fs : List Fl} (h : (frmE fs).2 = 0) (p : List Int) {i : Nat} (hi : i < fs.length) : 0 < (drV fs p i).2 ∧ (drV fs p i).2 ≤ stK fs i ∧ (drV fs p i).1 * stK fs i = suf p i * (drV fs p i).2 ∧ (drV fs p i).1.natAbs ≤ (suf p i).natAbs := fqF_parts _ (stK_bd h hi).1
theorem stE_diag {fs : List Fl} {n k : Nat} (hn : n = fs.length) (hk : k < n) : stE' (stK fs) n k k = stK fs k + stK fs (k + 1) := by
  unfold stE' stE
  dsimp only
  rw [if_pos rfl, if_pos hk]
  split
  · rfl
  · rw [stK_above (i := k + 1) (by omega)]
theorem stE_next {fs : List Fl} {n k : Nat} (hk : k + 1 < n) : stE' (stK fs) n k (k + 1) = -stK fs (k + 1) := by
  unfold stE' stE
  dsimp only
  rw [if_neg (by omega), if_neg (by omega), if_pos rfl, if_pos hk]
theorem mul_bds {x y : Int} {X Y : Nat} (hx : x.natAbs ≤ X) (hy : y.natAbs ≤ Y) : (x * y).natAbs ≤ X * Y := by
  rw [Int.natAbs_mul]
  exact Nat.mul_le_mul hx hy
/-- A box with a fraction. -/
structure FbW (W : World) (q : Nat) (x : Int × Int) : Prop where
  blk : W.heap[q]? = some (.cells #[.int .i64 x.1, .int .i64 x.2] 77)
theorem FbW.keep {W W' : World} {q : Nat} {x : Int × Int} (h : FbW W q x) (hb : Below W.heap.size W W') : FbW W' q x := ⟨blk_keep h.blk hb⟩
theorem cell_set2 {w : World} {b o q : Nat} {v x y : Value} (h : w.cell? ⟨b, o, none⟩ = some v) (hb : b < q) : ((w.setCell ⟨q, 0, none⟩ x).setCell ⟨q, 1, none⟩ y).cell? ⟨b, o, none⟩ = some v :=
  (sameCell ((Below.heap_setCell _ _ _ _ (by show b ≠ q; omega)).trans (Below.heap_setCell _ _ _ _ (by show b ≠ q; omega))) o).trans h
theorem FbW.set1 {w : World} {q : Nat} {z : Int × Int} (h : FbW w q z) (x : Int) : FbW (w.setCell ⟨q, 0, none⟩ (.int .i64 x)) q (x, z.2) := by
  have := setBlk h.blk 0 (.int .i64 x)
  exact ⟨by simpa using this⟩
theorem FbW.set2 {w : World} {q : Nat} {z : Int × Int} (h : FbW w q z) (x y : Int) : FbW ((w.setCell ⟨q, 0, none⟩ (.int .i64 x)).setCell ⟨q, 1, none⟩ (.int .i64 y)) q (x, y) := by
  have := setBlk (setBlk h.blk 0 (.int .i64 x)) 1 (.int .i64 y)
  exact ⟨by simpa using this⟩
set_option maxRecDepth 100000 in
set_option maxHeartbeats 20000000 in
theorem ModelFrames_walk (a pa : Option Addr) (n c pn pc : Nat) (raw : List FlR) (fs : List Fl) (p : List Int) (w : World) (h1 : FrV w a n c raw fs) (h2 : SI w pa pn pc p) :
    Calls Try.prog 9 #[.agg #[.slice a n c], .slice pa pn pc] w fun e w' => e = .returned (.bool true) ∧ Below w.heap.size w w' := by
  have hn := h1.n_
  have hmn := h2.len
  have m1 := h1.row.max
  have q1 := h1.row.cap
  have m2 := h2.max
  have q2 := h2.cap
  have HN := Lib.hid hn
  have HMN := Lib.hid hmn
  clear hn hmn
  obtain ⟨FI, hFI⟩ : ∃ E, (frmE fs).1 = E := ⟨_, rfl⟩
  obtain ⟨FE, hFE⟩ : ∃ E, (frmE fs).2 = E := ⟨_, rfl⟩
  obtain ⟨DE, hDE⟩ : ∃ E, duE fs p = E := ⟨_, rfl⟩
  have HFI := Lib.hid hFI
  have HFE := Lib.hid hFE
  have HDE := Lib.hid hDE
  clear hFI hFE hDE
  have y3 := alloc_new w (.cells #[.slice a n c] 24)
  have BW : Below w.heap.size w (w.alloc (.cells #[.slice a n c] 24)) := (Below.refl _ _).alloc (Nat.le_refl _) _
  go_enter Try.func9, Try.ntmps9
  have y3_0 := cell_block y3 0
  go_wp2_with fail
  clear y3_0
  refine (awake_any _).mono ?_
  rintro e w1 ⟨rfl, hs⟩
  replace y3 := blk_keep y3 hs
  replace BW := BW.trans (hs.mono BW.size)
  clear hs
  have y3_0 := cell_block y3 0
  go_wp2_with fail
  clear y3_0
  refine (Few_any a n c raw fs _ (h1.keep BW)).mono ?_
  rintro e w2 ⟨B, rfl, hB, hs⟩
  replace y3 := blk_keep y3 hs
  replace BW := BW.trans (hs.mono BW.size)
  clear hs
  by_cases hfew : B = true ∧ pn ≤ 7
  case neg =>
    cases B
    · go_wp2_with fail
      go_ret
      exact ⟨ret_bool (by simp), BW⟩
    · have g1 : (7 : Int) < (pn : Int) := by simp at hfew; omega
      go_wp2_with fail
      go_ret
      exact ⟨ret_bool (by simp), BW⟩
  case pos =>
    obtain ⟨rfl, hm6⟩ := hfew
    have hB5 := hB rfl
    have hn7 : n ≤ 7 := by have := HN.out; omega
    have HSP := Lib.hid (fun (i : Nat) (hi : i < fs.length) => Nat.le_trans (hB5.2 i hi) (show 6 ≤ 1000 by decide))
    have g1 : ¬ (7 : Int) < (pn : Int) := by omega
    clear hB hB5
    have y3_0 := cell_block y3 0
    go_wp2_with fail
    clear y3_0
    refine (CopyFrame_any a n c raw fs _ (h1.keep BW) (by omega) HSP.out).mono ?_
    rintro e w3 ⟨a1, c1, raw1, rfl, hF2, hs⟩
    (try dsimp only)
    replace y3 := blk_keep y3 hs
    replace BW := BW.trans (hs.mono BW.size)
    clear hs
    go_wp2_with fail
    refine (CheckFrame_any a1 n c1 raw1 fs _ hF2).mono ?_
    rintro e w4 ⟨rfl, hs⟩
    replace y3 := blk_keep y3 hs
    replace BW := BW.trans (hs.mono BW.size)
    clear hs
    rw [HFI.out, HFE.out]
    (try dsimp only)
    clear hF2
    have y3_0 := cell_block y3 0
    go_wp2_with fail
    clear y3_0
    refine (CopyFrame_any a n c raw fs _ (h1.keep BW) (by omega) HSP.out).mono ?_
    rintro e w5 ⟨a1, c1, raw1, rfl, hF2, hs⟩
    (try dsimp only)
    replace y3 := blk_keep y3 hs
    replace BW := BW.trans (hs.mono BW.size)
    clear hs
    go_wp2_with fail
    refine (StiffnessOf_any a1 n c1 raw1 fs _ hF2).mono ?_
    rintro e w6 ⟨ka, kn, kc, rfl, hk1, hk2, hs⟩
    rw [HFE.out] at hk1 hk2 ⊢
    (try dsimp only)
    replace y3 := blk_keep y3 hs
    replace BW := BW.trans (hs.mono BW.size)
    clear hs hF2
    have KK : KsK FE (stMx fs) ka kn kc w6 := ⟨hk2⟩
    have HK1 := Lib.hid hk1
    clear hk1 hk2
    have y3_0 := cell_block y3 0
    go_wp2_with fail
    clear y3_0
    refine (CopyFrame_any a n c raw fs _ (h1.keep BW) (by omega) HSP.out).mono ?_
    rintro e w7 ⟨a1, c1, raw1, rfl, hF2, hs⟩
    (try dsimp only)
    replace y3 := blk_keep y3 hs
    replace KK := KK.keep hs
    replace BW := BW.trans (hs.mono BW.size)
    clear hs
    go_wp2_with fail
    refine (copyInts_any pa pn pc p _ (h2.keep BW) (by omega)).mono ?_
    rintro e w8 ⟨a2, c2, rfl, hM, hs⟩
    replace y3 := blk_keep y3 hs
    replace KK := KK.keep hs
    replace hF2 := hF2.keep hs
    replace BW := BW.trans (hs.mono BW.size)
    clear hs
    (try dsimp only)
    have hM2 := hM.si
    clear hM
    go_wp2_with fail
    refine (DriftsUnder_any a1 a2 n c1 pn c2 raw1 fs p _ hF2 hM2).mono ?_
    rintro e w9 ⟨xa, xn, xc, rfl, hk1, hk2, hs⟩
    rw [HDE.out] at hk1 hk2 ⊢
    (try dsimp only)
    replace y3 := blk_keep y3 hs
    replace KK := KK.keep hs
    replace BW := BW.trans (hs.mono BW.size)
    clear hs hF2 hM2
    have KX : XsK DE (drS fs p) xa xn xc w9 := ⟨hk2⟩
    have HX1 := Lib.hid hk1
    clear hk1 hk2
    have y3_0 := cell_block y3 0
    go_wp2_with fail
    clear y3_0
    refine (CopyFrame_any a n c raw fs _ (h1.keep BW) (by omega) HSP.out).mono ?_
    rintro e w10 ⟨a1, c1, raw1, rfl, hF2, hs⟩
    (try dsimp only)
    replace y3 := blk_keep y3 hs
    replace KK := KK.keep hs
    replace KX := KX.keep hs
    replace BW := BW.trans (hs.mono BW.size)
    clear hs
    go_wp2_with fail
    refine (BeginOf_any a1 n c1 raw1 fs _ hF2).mono ?_
    rintro e w11 ⟨⟨⟨s1, s2, s3⟩, ⟨s4, s5, s6⟩, ⟨s7, s8, s9⟩⟩, rfl, hk1, hk2, hs⟩
    rw [HFE.out] at hk1 hk2 ⊢
    dsimp only [hv]
    replace y3 := blk_keep y3 hs
    replace KK := KK.keep hs
    replace KX := KX.keep hs
    replace BW := BW.trans (hs.mono BW.size)
    clear hs hF2
    have KB : BsK FE (bgSt fs) ((s1, s2, s3), (s4, s5, s6), (s7, s8, s9)) w11 := ⟨hk1, hk2⟩
    clear hk1 hk2
    have z11 := alloc_new w11 (.cells #[.slice s1 s2 s3, .slice s4 s5 s6, .slice s7 s8 s9] 97)
    have hk := (Below.refl w11.heap.size w11).alloc (Nat.le_refl _) (.cells #[.slice s1 s2 s3, .slice s4 s5 s6, .slice s7 s8 s9] 97)
    replace y3 := blk_keep y3 hk
    replace KK := KK.keep hk
    replace KX := KX.keep hk
    replace KB := KB.keep hk
    replace BW := BW.trans (hk.mono BW.size)
    clear hk
    have y3_0 := cell_block y3 0
    go_wp2_with fail
    obtain ⟨q1, hq1⟩ : ∃ q, w11.heap.size = q := ⟨_, rfl⟩
    rw [hq1] at z11 ⊢
    generalize w11.alloc (.cells #[.slice s1 s2 s3, .slice s4 s5 s6, .slice s7 s8 s9] 97) = W1 at *
    (try dsimp only)
    clear y3_0
    refine (rCheckFrame_any a n c raw fs _ (h1.keep BW)).mono ?_
    rintro e w12 ⟨rfl, hs⟩
    replace y3 := blk_keep y3 hs
    replace KK := KK.keep hs
    replace KX := KX.keep hs
    replace KB := KB.keep hs
    replace z11 := blk_keep z11 hs
    replace BW := BW.trans (hs.mono BW.size)
    clear hs
    rw [HFI.out, HFE.out]
    (try dsimp only)
    have b1 : (FE != FE) = false := by simp
    have b2 : (FI != FI) = false := by simp
    by_cases hz : FE = 0
    case neg =>
      have hDF : DE = FE := by rw [← HDE.out, duE, HFE.out, if_neg hz]
      have b3 : (FE != 0) = true := by simpa using hz
      obtain rfl := HK1.out hz
      obtain rfl := HX1.out (by rw [hDF]; exact hz)
      have hno := KB.no hz
      clear KB KK KX HK1 HX1 HDE hz
      subst hDF
      injection hno with e1 e2
      injection e2 with e2 e3
      injection e1 with e4 e5
      injection e5 with e5 e6
      injection e2 with e7 e8
      injection e8 with e8 e9
      injection e3 with e10 e11
      injection e11 with e11 e12
      subst e4 e5 e6 e7 e8 e9 e10 e11 e12
      have z11_0 := cell_block z11 0
      have z11_1 := cell_block z11 1
      have z11_2 := cell_block z11 2
      go_wp2_with fail
      clear z11_0 z11_1 z11_2
      refine (rSameState_any none none none none none none 0 0 0 0 0 0 0 0 0 0 0 0 ([], [], []) ([], [], []) _ (StV.zeroF _) (StV.zeroF _)).mono ?_
      rintro e w13 ⟨rfl, hs⟩
      replace y3 := blk_keep y3 hs
      replace z11 := blk_keep z11 hs
      replace BW := BW.trans (hs.mono BW.size)
      clear hs
      (try dsimp only)
      rw [show decide ((([], [], []) : St) = ([], [], [])) = true by simp]
      go_wp2_with fail
      go_ret
      exact ⟨ret_bool (by simp), BW⟩
    case pos =>
      subst hz
      obtain ⟨raw2, hK⟩ := KK.ex rfl
      have hSt := KB.st rfl
      have hDF : DE = foE n p := by rw [← HDE.out, duE, if_pos HFE.out, HN.out]
      have HDF := Lib.hid hDF
      clear KK KB HK1 hDF
      have y3_0 := cell_block y3 0
      have z11_0 := cell_block z11 0
      have z11_1 := cell_block z11 1
      have z11_2 := cell_block z11 2
      go_wp2_with fail
      clear y3_0 z11_0 z11_1 z11_2
      refine Calmly.wp_region_mix 19 (.fl 0 <| .fl 1 <| .fl 2 <| .gl 3 <| .gl 4 <| .gf 5 <| .gf 6 <| .gl 7 <| .fl 8 <| .fl 9 <| .gl 10 <| .gl 11 <| .fl 12 <| .fl 13 <| .gl 14 <| .gl 15 <| .gf 16 <| .gf 17 <| .gl 18 <| .tail [19]) (by kernel_rfl) (by kernel_rfl) ?_
      have BD : Below w12.heap.size w12 w12.drew := (Below.refl _ _).drew
      replace y3 := blk_keep y3 BD
      replace KX := KX.keep BD
      replace z11 := blk_keep z11 BD
      replace hK := hK.keep BD
      replace hSt := hSt.keep BD
      replace BW := BW.trans (BD.mono BW.size)
      clear BD
      generalize w12.drew = V at *
      have hk := Below.refl V.heap.size V
      have y3_0 := cell_block y3 0
      have z11_0 := cell_block z11 0
      have z11_1 := cell_block z11 1
      have z11_2 := cell_block z11 2
      go_wp2_with (first | ((with_reducible refine Calmly.is_fl ?_); refine Calmly.mix_fl rfl ?_ (fun _ _ => ?_); (first | exact .move _ | exact .load _ _ | exact .fieldAddr _ _ _ (by kernel_rfl) | exact .assign _ | exact .binOp _ _ _ _ _ rfl | exact .indexAddr _ _ _ | exact .len _ _ (by kernel_rfl) | exact .field _ _ _ | exact .extract _ _ | exact .pick _ _ _ | exact .build _ _ | exact .slice _ _ _ _ _ | exact .unOp _ _ _ rfl | exact .index _ _ _ | exact .max _ _ _ rfl rfl | exact .min _ _ _ rfl rfl | exact .nilCheck _ _ rfl)) | ((with_reducible refine Calmly.is_gl ?_); refine Calmly.mix_gl rfl rfl rfl ?_; first | ((first | with_reducible refine Calmly.gl_tt ?_ (fun _ _ => ?_) | with_reducible refine Calmly.gl_ff ?_ (fun _ _ => ?_)); (first | exact .move _ | exact .load _ _ | exact .fieldAddr _ _ _ (by kernel_rfl) | exact .assign _ | exact .binOp _ _ _ _ _ rfl | exact .indexAddr _ _ _ | exact .len _ _ (by kernel_rfl) | exact .field _ _ _ | exact .extract _ _ | exact .pick _ _ _ | exact .build _ _ | exact .slice _ _ _ _ _ | exact .unOp _ _ _ rfl | exact .index _ _ _ | exact .max _ _ _ rfl rfl | exact .min _ _ _ rfl rfl | exact .nilCheck _ _ rfl)) | with_reducible refine Calmly.gl_tf (fun _ _ => ?_) | with_reducible refine Calmly.gl_ft (fun _ _ => ?_)) | ((with_reducible refine Calmly.is_eff ?_); refine Calmly.mix_eff rfl (fun _ _ => ?_)) | ((with_reducible refine Calmly.is_gf ?_); refine Calmly.mix_gf rfl rfl rfl ?_; first | with_reducible refine Calmly.gf_tt (fun _ _ => ?_) | with_reducible refine Calmly.gf_ff (fun _ _ => ?_) | with_reducible refine Calmly.gf_tf (kept_of hk) (fun _ _ => ?_) | with_reducible refine Calmly.gf_ft (kept_of hk) (fun _ _ => ?_)) | ((with_reducible refine Calmly.is_tail ?_); first | refine Calmly.mix_tail_nil ?_ | refine Calmly.mix_tail rfl (fun _ _ => ?_)) | ((with_reducible refine Calmly.is_kept ?_); refine ⟨kept_of hk, ?_⟩) | (with_reducible refine Calmly.mix_alt ?_ ?_))
      refine (rStiffness_any a n c raw fs _ ((h1.keep BW).keep hk) HFE.out).mono ?_
      rintro e v1 ⟨ra, rn, rc, rfl, ⟨raw3, hR⟩, hs⟩
      (try dsimp only)
      replace hk := step_of hk hs
      have hK' := hK.keep hk
      clear hs
      go_wp2_with (first | ((with_reducible refine Calmly.is_fl ?_); refine Calmly.mix_fl rfl ?_ (fun _ _ => ?_); (first | exact .move _ | exact .load _ _ | exact .fieldAddr _ _ _ (by kernel_rfl) | exact .assign _ | exact .binOp _ _ _ _ _ rfl | exact .indexAddr _ _ _ | exact .len _ _ (by kernel_rfl) | exact .field _ _ _ | exact .extract _ _ | exact .pick _ _ _ | exact .build _ _ | exact .slice _ _ _ _ _ | exact .unOp _ _ _ rfl | exact .index _ _ _ | exact .max _ _ _ rfl rfl | exact .min _ _ _ rfl rfl | exact .nilCheck _ _ rfl)) | ((with_reducible refine Calmly.is_gl ?_); refine Calmly.mix_gl rfl rfl rfl ?_; first | ((first | with_reducible refine Calmly.gl_tt ?_ (fun _ _ => ?_) | with_reducible refine Calmly.gl_ff ?_ (fun _ _ => ?_)); (first | exact .move _ | exact .load _ _ | exact .fieldAddr _ _ _ (by kernel_rfl) | exact .assign _ | exact .binOp _ _ _ _ _ rfl | exact .indexAddr _ _ _ | exact .len _ _ (by kernel_rfl) | exact .field _ _ _ | exact .extract _ _ | exact .pick _ _ _ | exact .build _ _ | exact .slice _ _ _ _ _ | exact .unOp _ _ _ rfl | exact .index _ _ _ | exact .max _ _ _ rfl rfl | exact .min _ _ _ rfl rfl | exact .nilCheck _ _ rfl)) | with_reducible refine Calmly.gl_tf (fun _ _ => ?_) | with_reducible refine Calmly.gl_ft (fun _ _ => ?_)) | ((with_reducible refine Calmly.is_eff ?_); refine Calmly.mix_eff rfl (fun _ _ => ?_)) | ((with_reducible refine Calmly.is_gf ?_); refine Calmly.mix_gf rfl rfl rfl ?_; first | with_reducible refine Calmly.gf_tt (fun _ _ => ?_) | with_reducible refine Calmly.gf_ff (fun _ _ => ?_) | with_reducible refine Calmly.gf_tf (kept_of hk) (fun _ _ => ?_) | with_reducible refine Calmly.gf_ft (kept_of hk) (fun _ _ => ?_)) | ((with_reducible refine Calmly.is_tail ?_); first | refine Calmly.mix_tail_nil ?_ | refine Calmly.mix_tail rfl (fun _ _ => ?_)) | ((with_reducible refine Calmly.is_kept ?_); refine ⟨kept_of hk, ?_⟩) | (with_reducible refine Calmly.mix_alt ?_ ?_))
      refine (lists_any ka ra kn kc rn rc raw2 raw3 _ _ _ hK' hR).mono ?_
      rintro e v2 ⟨rfl, hs⟩
      (try dsimp only)
      rw [show decide (stMx fs = stMx fs) = true by simp]
      replace hk := step_of hk hs
      clear hs hK' hR
      go_wp2_with (first | ((with_reducible refine Calmly.is_fl ?_); refine Calmly.mix_fl rfl ?_ (fun _ _ => ?_); (first | exact .move _ | exact .load _ _ | exact .fieldAddr _ _ _ (by kernel_rfl) | exact .assign _ | exact .binOp _ _ _ _ _ rfl | exact .indexAddr _ _ _ | exact .len _ _ (by kernel_rfl) | exact .field _ _ _ | exact .extract _ _ | exact .pick _ _ _ | exact .build _ _ | exact .slice _ _ _ _ _ | exact .unOp _ _ _ rfl | exact .index _ _ _ | exact .max _ _ _ rfl rfl | exact .min _ _ _ rfl rfl | exact .nilCheck _ _ rfl)) | ((with_reducible refine Calmly.is_gl ?_); refine Calmly.mix_gl rfl rfl rfl ?_; first | ((first | with_reducible refine Calmly.gl_tt ?_ (fun _ _ => ?_) | with_reducible refine Calmly.gl_ff ?_ (fun _ _ => ?_)); (first | exact .move _ | exact .load _ _ | exact .fieldAddr _ _ _ (by kernel_rfl) | exact .assign _ | exact .binOp _ _ _ _ _ rfl | exact .indexAddr _ _ _ | exact .len _ _ (by kernel_rfl) | exact .field _ _ _ | exact .extract _ _ | exact .pick _ _ _ | exact .build _ _ | exact .slice _ _ _ _ _ | exact .unOp _ _ _ rfl | exact .index _ _ _ | exact .max _ _ _ rfl rfl | exact .min _ _ _ rfl rfl | exact .nilCheck _ _ rfl)) | with_reducible refine Calmly.gl_tf (fun _ _ => ?_) | with_reducible refine Calmly.gl_ft (fun _ _ => ?_)) | ((with_reducible refine Calmly.is_eff ?_); refine Calmly.mix_eff rfl (fun _ _ => ?_)) | ((with_reducible refine Calmly.is_gf ?_); refine Calmly.mix_gf rfl rfl rfl ?_; first | with_reducible refine Calmly.gf_tt (fun _ _ => ?_) | with_reducible refine Calmly.gf_ff (fun _ _ => ?_) | with_reducible refine Calmly.gf_tf (kept_of hk) (fun _ _ => ?_) | with_reducible refine Calmly.gf_ft (kept_of hk) (fun _ _ => ?_)) | ((with_reducible refine Calmly.is_tail ?_); first | refine Calmly.mix_tail_nil ?_ | refine Calmly.mix_tail rfl (fun _ _ => ?_)) | ((with_reducible refine Calmly.is_kept ?_); refine ⟨kept_of hk, ?_⟩) | (with_reducible refine Calmly.mix_alt ?_ ?_))
      refine (rFirst_any a n c raw fs _ ((h1.keep BW).keep hk) HFE.out).mono ?_
      rintro e v3 ⟨⟨⟨r1, r2, r3⟩, ⟨r4, r5, r6⟩, ⟨r7, r8, r9⟩⟩, rfl, hR, hs⟩
      dsimp only [hv]
      replace hk := step_of hk hs
      have hS' := hSt.keep hk
      clear hs
      go_wp2_with (first | ((with_reducible refine Calmly.is_fl ?_); refine Calmly.mix_fl rfl ?_ (fun _ _ => ?_); (first | exact .move _ | exact .load _ _ | exact .fieldAddr _ _ _ (by kernel_rfl) | exact .assign _ | exact .binOp _ _ _ _ _ rfl | exact .indexAddr _ _ _ | exact .len _ _ (by kernel_rfl) | exact .field _ _ _ | exact .extract _ _ | exact .pick _ _ _ | exact .build _ _ | exact .slice _ _ _ _ _ | exact .unOp _ _ _ rfl | exact .index _ _ _ | exact .max _ _ _ rfl rfl | exact .min _ _ _ rfl rfl | exact .nilCheck _ _ rfl)) | ((with_reducible refine Calmly.is_gl ?_); refine Calmly.mix_gl rfl rfl rfl ?_; first | ((first | with_reducible refine Calmly.gl_tt ?_ (fun _ _ => ?_) | with_reducible refine Calmly.gl_ff ?_ (fun _ _ => ?_)); (first | exact .move _ | exact .load _ _ | exact .fieldAddr _ _ _ (by kernel_rfl) | exact .assign _ | exact .binOp _ _ _ _ _ rfl | exact .indexAddr _ _ _ | exact .len _ _ (by kernel_rfl) | exact .field _ _ _ | exact .extract _ _ | exact .pick _ _ _ | exact .build _ _ | exact .slice _ _ _ _ _ | exact .unOp _ _ _ rfl | exact .index _ _ _ | exact .max _ _ _ rfl rfl | exact .min _ _ _ rfl rfl | exact .nilCheck _ _ rfl)) | with_reducible refine Calmly.gl_tf (fun _ _ => ?_) | with_reducible refine Calmly.gl_ft (fun _ _ => ?_)) | ((with_reducible refine Calmly.is_eff ?_); refine Calmly.mix_eff rfl (fun _ _ => ?_)) | ((with_reducible refine Calmly.is_gf ?_); refine Calmly.mix_gf rfl rfl rfl ?_; first | with_reducible refine Calmly.gf_tt (fun _ _ => ?_) | with_reducible refine Calmly.gf_ff (fun _ _ => ?_) | with_reducible refine Calmly.gf_tf (kept_of hk) (fun _ _ => ?_) | with_reducible refine Calmly.gf_ft (kept_of hk) (fun _ _ => ?_)) | ((with_reducible refine Calmly.is_tail ?_); first | refine Calmly.mix_tail_nil ?_ | refine Calmly.mix_tail rfl (fun _ _ => ?_)) | ((with_reducible refine Calmly.is_kept ?_); refine ⟨kept_of hk, ?_⟩) | (with_reducible refine Calmly.mix_alt ?_ ?_))
      refine (rSameState_any s1 s4 s7 r1 r4 r7 s2 s3 s5 s6 s8 s9 r2 r3 r5 r6 r8 r9 _ _ _ hS' hR).mono ?_
      rintro e v4 ⟨rfl, hs⟩
      (try dsimp only)
      rw [show decide (bgSt fs = bgSt fs) = true by simp]
      replace hk := step_of hk hs
      clear hs hS' hR
      clear hSt z11
      clear z11_0 z11_1 z11_2
      clear y3_0
      replace y3 := blk_keep y3 hk
      replace KX := KX.keep hk
      replace hK := hK.keep hk
      replace BW := BW.trans (hk.mono BW.size)
      have y3_0 := cell_block y3 0
      go_wp2_with (first | ((with_reducible refine Calmly.is_fl ?_); refine Calmly.mix_fl rfl ?_ (fun _ _ => ?_); (first | exact .move _ | exact .load _ _ | exact .fieldAddr _ _ _ (by kernel_rfl) | exact .assign _ | exact .binOp _ _ _ _ _ rfl | exact .indexAddr _ _ _ | exact .len _ _ (by kernel_rfl) | exact .field _ _ _ | exact .extract _ _ | exact .pick _ _ _ | exact .build _ _ | exact .slice _ _ _ _ _ | exact .unOp _ _ _ rfl | exact .index _ _ _ | exact .max _ _ _ rfl rfl | exact .min _ _ _ rfl rfl | exact .nilCheck _ _ rfl)) | ((with_reducible refine Calmly.is_gl ?_); refine Calmly.mix_gl rfl rfl rfl ?_; first | ((first | with_reducible refine Calmly.gl_tt ?_ (fun _ _ => ?_) | with_reducible refine Calmly.gl_ff ?_ (fun _ _ => ?_)); (first | exact .move _ | exact .load _ _ | exact .fieldAddr _ _ _ (by kernel_rfl) | exact .assign _ | exact .binOp _ _ _ _ _ rfl | exact .indexAddr _ _ _ | exact .len _ _ (by kernel_rfl) | exact .field _ _ _ | exact .extract _ _ | exact .pick _ _ _ | exact .build _ _ | exact .slice _ _ _ _ _ | exact .unOp _ _ _ rfl | exact .index _ _ _ | exact .max _ _ _ rfl rfl | exact .min _ _ _ rfl rfl | exact .nilCheck _ _ rfl)) | with_reducible refine Calmly.gl_tf (fun _ _ => ?_) | with_reducible refine Calmly.gl_ft (fun _ _ => ?_)) | ((with_reducible refine Calmly.is_eff ?_); refine Calmly.mix_eff rfl (fun _ _ => ?_)) | ((with_reducible refine Calmly.is_gf ?_); refine Calmly.mix_gf rfl rfl rfl ?_; first | with_reducible refine Calmly.gf_tt (fun _ _ => ?_) | with_reducible refine Calmly.gf_ff (fun _ _ => ?_) | with_reducible refine Calmly.gf_tf (kept_of hk) (fun _ _ => ?_) | with_reducible refine Calmly.gf_ft (kept_of hk) (fun _ _ => ?_)) | ((with_reducible refine Calmly.is_tail ?_); first | refine Calmly.mix_tail_nil ?_ | refine Calmly.mix_tail rfl (fun _ _ => ?_)) | ((with_reducible refine Calmly.is_kept ?_); refine ⟨kept_of hk, ?_⟩) | (with_reducible refine Calmly.mix_alt ?_ ?_))
      clear hk
      clear y3_0
      refine (rForcesErr_any a pa n c pn pc p _ (h2.keep BW)).mono ?_
      rintro e w13 ⟨rfl, hs⟩
      replace y3 := blk_keep y3 hs
      replace KX := KX.keep hs
      replace hK := hK.keep hs
      replace BW := BW.trans (hs.mono BW.size)
      clear hs
      rw [← HDF.out]
      (try dsimp only)
      by_cases hz : DE = 0
      case neg =>
        have b3 : (DE != 0) = true := by simpa using hz
        have b4 : (DE == DE) = true := by simp
        obtain rfl := HX1.out hz
        clear hz HX1 KX
        go_wp2_with fail
        go_ret
        exact ⟨ret_bool (by simp), BW⟩
      case pos =>
        subst hz
        have hX := KX.ex rfl
        have hfo := HDF.out.symm
        obtain ⟨hpl, hpb⟩ := foE_ok hfo
        clear KX HX1
        have y3_0 := cell_block y3 0
        iterate 22 go_step
        apply wp_seq_k
        intro KB hKB
        have hKB' := fun a w (h : Stop _) => hKB a w h.out
        clear hKB
        go_wp2_with fail
        clear y3_0
        refine (rDrifts_any a pa n c pn pc raw fs p _ (h1.keep BW) HFE.out (h2.keep BW) hfo).mono ?_
        rintro e w14 ⟨da, dc, rfl, hR, hs⟩
        (try dsimp only)
        replace y3 := blk_keep y3 hs
        replace hK := hK.keep hs
        replace hX := hX.keep hs
        replace BW := BW.trans (hs.mono BW.size)
        clear hs
        go_wp2_with fail
        refine (fracs_any xa da xn xc pn dc _ _ _ hX hR).mono ?_
        rintro e w15 ⟨rfl, hs⟩
        replace y3 := blk_keep y3 hs
        replace hK := hK.keep hs
        replace hX := hX.keep hs
        replace BW := BW.trans (hs.mono BW.size)
        clear hs
        (try dsimp only)
        rw [show decide (drS fs p = drS fs p) = true by simp]
        clear hR
        have hkn : n = kn := by rw [hK.n_, stMx, List.length_map, List.length_range, HN.out]
        have hxn : pn = xn := by rw [hX.len, drS, List.length_map, List.length_range, HMN.out]
        have hpn : n = pn := by rw [HMN.out, hpl]
        subst hpn
        subst hkn hxn
        have HFO := Lib.hid hfo
        have HPB := Lib.hid hpb
        clear hfo hpb hpl
        have HKB : ∀ (y4 y5 y6 y8 y10 y11 y12 y13 y14 y19 y20 y21 y22 y23 y24 y25 y26 y27 y28 y29 y30 y31 y32 y33 y34 y35 y36 y37 y38 y39 y40 y41 y42 y43 y44 y45 y46 y47 y48 y49 y50 y51 y52 y53 y54 y55 y56 y57 y58 y59 y60 y61 y62 y63 y64 y65 y66 y67 y68 y69 y70 y71 y72 y73 y74 y75 y76 y77 y78 y79 y80 y81 y82 y83 y84 y85 y86 y87 y88 y89 y90 y91 y92 y93 y94 y95 y96 y97 y98 y99 y100 y101 y102 y103 y104 y105 y106 y107 y108 y109 y110 y111 y112 y113 y114 y115 y116 y117 y118 y119 y120 y121 y122 y123 y124 y125 y126 y127 y128 y129 y130 y131 y132 y133 y134 y135 y136 y137 y138 : Value), KB { tmps := #[.agg #[.slice a n c], .slice pa n pc, .pointer (some ⟨w.heap.size, 0, none⟩), undef, y4, y5, y6, .slice ka n kc, y8, .slice xa n xc, y10, y11, y12, y13, y14, undef, undef, undef, undef, y19, y20, y21, y22, y23, y24, y25, y26, y27, y28, y29, y30, y31, y32, y33, y34, y35, y36, y37, y38, y39, y40, y41, y42, y43, y44, y45, y46, y47, y48, y49, y50, y51, y52, y53, y54, y55, y56, y57, y58, y59, y60, y61, y62, y63, y64, y65, y66, y67, y68, y69, y70, y71, y72, y73, y74, y75, y76, y77, y78, y79, y80, y81, y82, y83, y84, y85, y86, y87, y88, y89, y90, y91, y92, y93, y94, y95, y96, y97, y98, y99, y100, y101, y102, y103, y104, y105, y106, y107, y108, y109, y110, y111, y112, y113, y114, y115, y116, y117, y118, y119, y120, y121, y122, y123, y124, y125, y126, y127, y128, y129, y130, y131, y132, y133, y134, y135, y136, y137, y138, undef, undef, undef, undef, undef, undef, undef, undef, undef, undef, undef, undef, undef, undef, undef, undef, undef, undef, undef, undef, undef, undef, undef, undef, undef, undef, undef, undef, undef, undef, undef, undef, undef, undef, undef, undef, undef, undef, undef, undef, undef, undef, undef, undef, undef, undef, undef, undef, undef, undef, undef, undef, undef, undef, undef, undef, undef, undef, undef, undef, undef, undef, undef, undef, undef, undef, undef, undef, undef, undef, undef, undef, undef, undef, undef, undef, undef, undef, undef, undef, undef, undef, undef, undef, undef, undef, undef, undef, undef, undef, undef, undef, undef, undef, undef, undef, undef, undef, undef, undef, undef, undef, undef, undef, undef, undef, undef, undef, undef, undef], defers := [] } w15 := by
          intro y4 y5 y6 y8 y10 y11 y12 y13 y14 y19 y20 y21 y22 y23 y24 y25 y26 y27 y28 y29 y30 y31 y32 y33 y34 y35 y36 y37 y38 y39 y40 y41 y42 y43 y44 y45 y46 y47 y48 y49 y50 y51 y52 y53 y54 y55 y56 y57 y58 y59 y60 y61 y62 y63 y64 y65 y66 y67 y68 y69 y70 y71 y72 y73 y74 y75 y76 y77 y78 y79 y80 y81 y82 y83 y84 y85 y86 y87 y88 y89 y90 y91 y92 y93 y94 y95 y96 y97 y98 y99 y100 y101 y102 y103 y104 y105 y106 y107 y108 y109 y110 y111 y112 y113 y114 y115 y116 y117 y118 y119 y120 y121 y122 y123 y124 y125 y126 y127 y128 y129 y130 y131 y132 y133 y134 y135 y136 y137 y138
          refine hKB' _ _ ⟨?_⟩
          clear hKB'
          generalize w15 = W0 at *
          try dsimp only
          go_wp2_with fail
          have BW0 := BW.size
          go_loopw [15] (fun i wr => ∃ k : Nat, k ≤ n ∧ i = .int .i64 (k : Int) ∧ Below W0.heap.size W0 wr) (fun i _ => n - (intOf i).toNat)
          case atStart => exact ⟨0, by omega, rfl, Below.refl _ _⟩
          case round =>
            obtain ⟨k, hk, rfl, hbr⟩ := hrel
            by_cases hlt : k < n
            case neg =>
              have hle : ¬ (k : Int) < (n : Int) := by omega
              try dsimp only
              go_wp2_with fail
              go_ret
              exact ⟨ret_bool (by simp), BW.trans (hbr.mono BW.size)⟩
            case pos =>
              replace hK := hK.keep hbr
              replace hX := hX.keep hbr
              have hpp := (h2.keep BW).keep hbr
              obtain ⟨kb, ko, rfl, hkc⟩ := hK.row.at_ (by omega)
              have z0 := hkc k hlt
              rw [Nat.mul_one] at z0
              have hrow := hK.at_ k (by rw [stMx, List.length_map, List.length_range, ← HN.out]; exact hlt)
              rw [show (stMx fs)[k]?.getD [] = stR (stK fs) n n k by rw [stMx, ← HN.out]; simp [hlt]] at hrow
              obtain ⟨rr, hrr⟩ : ∃ rr, raw2[k]?.getD lsr0 = rr := ⟨_, rfl⟩
              obtain ⟨u1, u2, u3⟩ := rr
              rw [hrr] at z0 hrow
              dsimp only [hv] at z0 hrow
              have hu2 : n = u2 := by rw [hrow.len, stR_len]
              have hu3 := hrow.max
              have hu4 := hrow.cap
              subst hu2
              clear hrr hkc hK
              obtain ⟨rb, ro, rfl, hrc⟩ := hrow.at_ (by omega)
              have zr0 := hrc k hlt
              rw [stR_at _ _ _ _ hlt] at zr0
              obtain ⟨xb, xo, rfl, hxc⟩ := hX.at_ (by omega)
              obtain ⟨zx0, zx1⟩ := hxc k hlt
              rw [drS_at _ _ (by rw [← HMN.out]; exact hlt)] at zx0 zx1
              obtain ⟨pb, po, rfl, hpc⟩ := hpp.at_ (by omega)
              have zp := hpc k hlt
              have mx := hX.max
              have cx := hX.cap
              have hk0 := stK_bd HFE.out (i := k) (by rw [← HN.out]; exact hlt)
              have hk1 := stK_all HFE.out (k + 1)
              have hsk := suf_step p (i := k) (by rw [← HMN.out]; exact hlt)
              have hsb := suf_bd HPB.out (by rw [← HMN.out]; exact hn7) k
              have hsb1 := suf_bd HPB.out (by rw [← HMN.out]; exact hn7) (k + 1)
              have hpbk := HPB.out k
              have hd0 := drV_parts HFE.out p (i := k) (by rw [← HN.out]; exact hlt)
              have hDD : stE' (stK fs) n k k = stK fs k + stK fs (k + 1) := stE_diag HN.out hlt
              obtain ⟨K0, hK0⟩ : ∃ x, stK fs k = x := ⟨_, rfl⟩
              obtain ⟨K1, hK1⟩ : ∃ x, stK fs (k + 1) = x := ⟨_, rfl⟩
              obtain ⟨S0, hS0⟩ : ∃ x, suf p k = x := ⟨_, rfl⟩
              obtain ⟨S1, hS1⟩ : ∃ x, suf p (k + 1) = x := ⟨_, rfl⟩
              obtain ⟨F0, hF0⟩ : ∃ x, p[k]?.getD 0 = x := ⟨_, rfl⟩
              obtain ⟨⟨P0, Q0⟩, hPQ0⟩ : ∃ x, drV fs p k = x := ⟨_, rfl⟩
              rw [hK0, hK1] at hDD
              rw [hK0] at hk0 hd0
              rw [hK1] at hk1
              rw [hS0, hS1, hF0] at hsk
              rw [hS0] at hsb hd0
              rw [hS1] at hsb1
              rw [hF0] at hpbk zp
              rw [hPQ0] at hd0 zx0 zx1
              dsimp only at hd0 zx0 zx1
              obtain ⟨D, hD⟩ : ∃ x, stE' (stK fs) n k k = x := ⟨_, rfl⟩
              rw [hD] at hDD zr0
              obtain ⟨hd1, hd2, hd3, hd4⟩ := hd0
              have hi1 : (k : Int) < (n : Int) := by omega
              have hi0 : (0 : Int) ≤ (k : Int) := by omega
              have hDb1 : 0 ≤ D := by omega
              have hDb2 : D ≤ 8000 := by omega
              have hm1 : (-D * P0).natAbs ≤ 8000 * 7000000 := mul_bds (by omega) (by omega)
              obtain ⟨X1, hX1⟩ : ∃ x, -D * P0 = x := ⟨_, rfl⟩
              rw [hX1] at hm1
              obtain ⟨⟨O1, O2⟩, hO⟩ : ∃ x, fqF X1 Q0 = x := ⟨_, rfl⟩
              have HO := Lib.hid hO
              have HD := Lib.hid hDD
              have HSK := Lib.hid hsk
              have HP3 := Lib.hid hd3
              clear hO hDD hsk hd3
              have zr1 : k + 1 < n → wr.cell? ⟨rb, ro + (k + 1), none⟩ = some (.int .i64 (-K1)) := fun h => by rw [← hK1, ← stE_next h, ← stR_at _ _ _ _ h]; exact hrc (k + 1) h
              have zx2 : k + 1 < n → wr.cell? ⟨xb, xo + (k + 1) * 2, none⟩ = some (.int .i64 (drV fs p (k + 1)).1) ∧ wr.cell? ⟨xb, xo + (k + 1) * 2 + 1, none⟩ = some (.int .i64 (drV fs p (k + 1)).2) := fun h => by rw [← drS_at _ _ (by rw [← HMN.out]; exact h)]; exact hxc (k + 1) h
              have HK1 := Lib.hid hK1
              have HS1 := Lib.hid hS1
              have ZR1 := Lib.hid zr1
              have ZX2 := Lib.hid zx2
              clear hrow hX hpp hrc hxc hpc hK0 hS0 hF0 hPQ0 hD zr1 zx2 hK1 hS1
              have hxw := cell_lt zx0
              have hpw := cell_lt zp
              have hbr0 := hbr
              have bX := Below.refl wr.heap.size wr
              try dsimp only
              go_wp2_with fail
              refine Calmly.wp_region_mix 21 (.fl 0 <| .fl 1 <| .fl 2 <| .fl 3 <| .fl 4 <| .fl 5 <| .fl 6 <| .fl 7 <| .fl 8 <| .fl 9 <| .fl 10 <| .fl 11 <| .fl 12 <| .fl 13 <| .fl 14 <| .fl 15 <| .fl 16 <| .fl 17 <| .fl 18 <| .alt 19 (.eff 20 <| .tail [21]) (.eff 20 (.eff 19 <| .tail [21]))) (by kernel_rfl) (by kernel_rfl) ?_
              have BD : Below wr.heap.size wr wr.drew := (Below.refl _ _).drew
              have hs24 := BD.size
              replace z0 := cell_keep z0 BD
              replace zr0 := cell_keep zr0 BD
              replace zx0 := cell_keep zx0 BD
              replace zx1 := cell_keep zx1 BD
              replace zp := cell_keep zp BD
              replace hbr := hbr.trans (BD.mono hbr.size)
              replace bX := bX.trans (BD.mono bX.size)
              clear BD
              generalize wr.drew = V at *
              have hk := Below.refl V.heap.size V
              rename_i K24 hK24
              have hK24' := fun a w (h : Stop _) => hK24 a w h.out
              clear hK24
              have HK24 : ∀ (W : World) (q16 : Nat) (y4 y17 y18 y139 y140 y141 y142 y143 y144 y145 y146 y147 y148 y149 y150 y151 y152 y153 y154 y155 y156 y157 y158 y159 y160 y161 y162 y163 y164 y165 y166 y167 y168 y169 y170 y171 y172 y173 y174 y175 y176 y177 y178 y179 y180 y181 y182 y183 y184 y185 y186 y187 y188 y189 y190 y191 y192 y193 y194 y195 y196 y197 y198 y199 y200 y201 y202 y203 y204 y205 y206 y207 y208 y209 y210 y211 y212 y213 y214 y215 y216 y217 y218 y219 y220 y221 y222 y223 y224 y225 y226 y227 y228 y229 y230 y231 y232 y233 y234 y235 y236 y237 y238 y239 y240 y241 y242 y243 y244 y245 y246 y247 y248 : Value), Below V.heap.size V W → FbW W q16 (O1, O2) → V.heap.size ≤ q16 → K24 { tmps := #[.agg #[.slice a n c], .slice (some ⟨pb, po, none⟩) n pc, .pointer (some ⟨w.heap.size, 0, none⟩), undef, y4, y5, y6, .slice (some ⟨kb, ko, none⟩) n kc, y8, .slice (some ⟨xb, xo, none⟩) n xc, y10, y11, y12, y13, y14, .int .i64 (k : Int), .pointer (some ⟨q16, 0, none⟩), y17, y18, y19, y20, y21, y22, y23, y24, y25, y26, y27, y28, y29, y30, y31, y32, y33, y34, y35, y36, y37, y38, y39, y40, y41, y42, y43, y44, y45, y46, y47, y48, y49, y50, y51, y52, y53, y54, y55, y56, y57, y58, y59, y60, y61, y62, y63, y64, y65, y66, y67, y68, y69, y70, y71, y72, y73, y74, y75, y76, y77, y78, y79, y80, y81, y82, y83, y84, y85, y86, y87, y88, y89, y90, y91, y92, y93, y94, y95, y96, y97, y98, y99, y100, y101, y102, y103, y104, y105, y106, y107, y108, y109, y110, y111, y112, y113, y114, y115, y116, y117, y118, y119, y120, y121, y122, y123, y124, y125, y126, y127, y128, y129, y130, y131, y132, y133, y134, y135, y136, y137, y138, y139, y140, y141, y142, y143, y144, y145, y146, y147, y148, y149, y150, y151, y152, y153, y154, y155, y156, y157, y158, y159, y160, y161, y162, y163, y164, y165, y166, y167, y168, y169, y170, y171, y172, y173, y174, y175, y176, y177, y178, y179, y180, y181, y182, y183, y184, y185, y186, y187, y188, y189, y190, y191, y192, y193, y194, y195, y196, y197, y198, y199, y200, y201, y202, y203, y204, y205, y206, y207, y208, y209, y210, y211, y212, y213, y214, y215, y216, y217, y218, y219, y220, y221, y222, y223, y224, y225, y226, y227, y228, y229, y230, y231, y232, y233, y234, y235, y236, y237, y238, y239, y240, y241, y242, y243, y244, y245, y246, y247, y248], defers := [] } W := by
                intro W q16 y4 y17 y18 y139 y140 y141 y142 y143 y144 y145 y146 y147 y148 y149 y150 y151 y152 y153 y154 y155 y156 y157 y158 y159 y160 y161 y162 y163 y164 y165 y166 y167 y168 y169 y170 y171 y172 y173 y174 y175 y176 y177 y178 y179 y180 y181 y182 y183 y184 y185 y186 y187 y188 y189 y190 y191 y192 y193 y194 y195 y196 y197 y198 y199 y200 y201 y202 y203 y204 y205 y206 y207 y208 y209 y210 y211 y212 y213 y214 y215 y216 y217 y218 y219 y220 y221 y222 y223 y224 y225 y226 y227 y228 y229 y230 y231 y232 y233 y234 y235 y236 y237 y238 y239 y240 y241 y242 y243 y244 y245 y246 y247 y248 hb hO hq
                refine hK24' _ _ ⟨?_⟩
                clear hK24' hk
                replace z0 := cell_keep z0 hb
                replace zr0 := cell_keep zr0 hb
                replace zx0 := cell_keep zx0 hb
                replace zx1 := cell_keep zx1 hb
                replace zp := cell_keep zp hb
                replace hbr := hbr.trans (hb.mono hbr.size)
                replace bX := bX.trans (hb.mono bX.size)
                clear hb
                have hxq : xb < q16 := by omega
                have hpq : pb < q16 := by omega
                have hWq : W0.heap.size ≤ q16 := by have := hbr0.size; omega
                clear hs24 hq hxw hpw hbr0
                by_cases hk1 : k + 1 < n
                case neg =>
                  have c1' : ¬ (k : Int) + 1 < (n : Int) := by omega
                  have hK10 : K1 = 0 := by rw [← HK1.out]; exact stK_above (by have := HN.out; omega)
                  have hS10 : S1 = 0 := by rw [← HS1.out]; exact suf_end p (by have := HMN.out; omega)
                  have hOO : (O1, O2) = (-S0, 1) := by rw [← HO.out, ← hX1, HD.out, hK10, Int.add_zero, Int.neg_mul, Int.mul_comm, HP3.out, ← Int.neg_mul]; exact fqF_mul _ hd1
                  injection hOO with e1 e2
                  have c2 : (O2 != 1) = false := by rw [e2]; rfl
                  have c3 : (O1 != -F0) = false := by rw [e1]; have := HSK.out; simp; omega
                  have g1 := cell_block hO.blk 0
                  have g2 := cell_block hO.blk 1
                  clear hK10 hS10 e1 e2 hX1 hk1
                  try dsimp only
                  go_wp2_with fail
                  refine Calmly.wp_region_mix 12 (.fl 0 <| .fl 1 <| .fl 2 <| .fl 3 <| .gl 4 <| .gl 5 <| .gl 6 <| .gl 7 <| .gl 8 <| .gl 9 <| .gl 10 <| .gl 11 <| .tail [12]) (by kernel_rfl) (by kernel_rfl) ?_
                  have BD : Below W.heap.size W W.drew := (Below.refl _ _).drew
                  have hs31 := BD.size
                  replace hO := hO.keep BD
                  replace z0 := cell_keep z0 BD
                  replace zr0 := cell_keep zr0 BD
                  replace zx0 := cell_keep zx0 BD
                  replace zx1 := cell_keep zx1 BD
                  replace zp := cell_keep zp BD
                  replace hbr := hbr.trans (BD.mono hbr.size)
                  replace bX := bX.trans (BD.mono bX.size)
                  clear BD
                  generalize W.drew = V at *
                  have hk := Below.refl V.heap.size V
                  have g1 := cell_block hO.blk 0
                  have g2 := cell_block hO.blk 1
                  try dsimp only
                  go_wp2_with (first | ((with_reducible refine Calmly.is_fl ?_); refine Calmly.mix_fl rfl ?_ (fun _ _ => ?_); (first | exact .move _ | exact .load _ _ | exact .fieldAddr _ _ _ (by kernel_rfl) | exact .assign _ | exact .binOp _ _ _ _ _ rfl | exact .indexAddr _ _ _ | exact .len _ _ (by kernel_rfl) | exact .field _ _ _ | exact .extract _ _ | exact .pick _ _ _ | exact .build _ _ | exact .slice _ _ _ _ _ | exact .unOp _ _ _ rfl | exact .index _ _ _ | exact .max _ _ _ rfl rfl | exact .min _ _ _ rfl rfl | exact .nilCheck _ _ rfl)) | ((with_reducible refine Calmly.is_gl ?_); refine Calmly.mix_gl rfl rfl rfl ?_; first | ((first | with_reducible refine Calmly.gl_tt ?_ (fun _ _ => ?_) | with_reducible refine Calmly.gl_ff ?_ (fun _ _ => ?_)); (first | exact .move _ | exact .load _ _ | exact .fieldAddr _ _ _ (by kernel_rfl) | exact .assign _ | exact .binOp _ _ _ _ _ rfl | exact .indexAddr _ _ _ | exact .len _ _ (by kernel_rfl) | exact .field _ _ _ | exact .extract _ _ | exact .pick _ _ _ | exact .build _ _ | exact .slice _ _ _ _ _ | exact .unOp _ _ _ rfl | exact .index _ _ _ | exact .max _ _ _ rfl rfl | exact .min _ _ _ rfl rfl | exact .nilCheck _ _ rfl)) | with_reducible refine Calmly.gl_tf (fun _ _ => ?_) | with_reducible refine Calmly.gl_ft (fun _ _ => ?_)) | ((with_reducible refine Calmly.is_eff ?_); refine Calmly.mix_eff rfl (fun _ _ => ?_)) | ((with_reducible refine Calmly.is_gf ?_); refine Calmly.mix_gf rfl rfl rfl ?_; first | with_reducible refine Calmly.gf_tt (fun _ _ => ?_) | with_reducible refine Calmly.gf_ff (fun _ _ => ?_) | with_reducible refine Calmly.gf_tf (kept_of hk) (fun _ _ => ?_) | with_reducible refine Calmly.gf_ft (kept_of hk) (fun _ _ => ?_)) | ((with_reducible refine Calmly.is_tail ?_); first | refine Calmly.mix_tail_nil ?_ | refine Calmly.mix_tail rfl (fun _ _ => ?_)) | ((with_reducible refine Calmly.is_kept ?_); refine ⟨kept_of hk, ?_⟩) | (with_reducible refine Calmly.mix_alt ?_ ?_))
                  replace hbr := hbr.trans (hk.mono hbr.size)
                  go_roundw
                  case rel => exact ⟨k + 1, by omega, by go_num, hbr⟩
                  case measure => simp [intOf]; omega
                case pos =>
                  have hi2 : (k : Int) + 1 < (n : Int) := by omega
                  have c7 : ((k : Int) + 1).toNat = k + 1 := by omega
                  have c8 : (0 : Int) ≤ (k : Int) + 1 := by omega
                  obtain ⟨zx2, zx3⟩ := ZX2.out hk1
                  have zr1 := cell_keep (ZR1.out hk1) bX
                  replace zx2 := cell_keep zx2 bX
                  replace zx3 := cell_keep zx3 bX
                  have hk10 := stK_bd HFE.out (i := k + 1) (by rw [← HN.out]; exact hk1)
                  have hd0 := drV_parts HFE.out p (i := k + 1) (by rw [← HN.out]; exact hk1)
                  rw [HK1.out] at hk10 hd0
                  rw [HS1.out] at hd0
                  obtain ⟨⟨P1, Q1⟩, hPQ1⟩ : ∃ x, drV fs p (k + 1) = x := ⟨_, rfl⟩
                  rw [hPQ1] at hd0 zx2 zx3
                  dsimp only at hd0 zx2 zx3
                  obtain ⟨he1, he2, he3, he4⟩ := hd0
                  obtain ⟨N1, hN1⟩ : ∃ x, -K1 = x := ⟨_, rfl⟩
                  rw [hN1] at zr1
                  have hm2 : ((-N1 - D) * P0).natAbs ≤ 13000 * 7000000 := mul_bds (by omega) (by omega)
                  have hm3 : (-N1 * P1).natAbs ≤ 8000 * 7000000 := mul_bds (by omega) (by omega)
                  have hv2 : (-N1 - D) * P0 = -S0 * Q0 := by rw [← hN1, HD.out, show - -K1 - (K0 + K1) = -K0 by omega, Int.neg_mul, Int.mul_comm, HP3.out, ← Int.neg_mul]
                  have hv3 : -N1 * P1 = S1 * Q1 := by rw [← hN1, Int.neg_neg, Int.mul_comm, he3]
                  obtain ⟨X2, hX2⟩ : ∃ x, (-N1 - D) * P0 = x := ⟨_, rfl⟩
                  obtain ⟨X3, hX3⟩ : ∃ x, -N1 * P1 = x := ⟨_, rfl⟩
                  rw [hX2] at hm2 hv2
                  rw [hX3] at hm3 hv3
                  obtain ⟨M0, hM0⟩ : ∃ x, -S0 = x := ⟨_, rfl⟩
                  have hf2 : fqF X2 Q0 = (M0, 1) := by rw [hv2, hM0]; exact fqF_mul _ hd1
                  have hf3 : fqF X3 Q1 = (S1, 1) := by rw [hv3]; exact fqF_mul _ he1
                  have HF2 := Lib.hid hf2
                  have HF3 := Lib.hid hf3
                  have c4 : (M0 + S1 != -F0) = false := by have := HSK.out; simp; omega
                  have hM1 : -7000000 ≤ M0 ∧ M0 ≤ 7000000 := by omega
                  obtain ⟨hM2, hM3⟩ := hM1
                  have hN2 : -4000 ≤ N1 ∧ N1 ≤ 0 := by omega
                  obtain ⟨hN3, hN4⟩ := hN2
                  clear hf2 hf3 hv2 hv3 hM0 hN1 hPQ1 hX1 hk1 HO HP3 HD ZX2 ZR1 hd4 he3 he4
                  try dsimp only
                  go_wp2_with fail
                  refine Calmly.wp_region_mix 21 (.fl 0 <| .fl 1 <| .fl 2 <| .fl 3 <| .fl 4 <| .fl 5 <| .fl 6 <| .fl 7 <| .fl 8 <| .fl 9 <| .fl 10 <| .fl 11 <| .fl 12 <| .fl 13 <| .fl 14 <| .fl 15 <| .fl 16 <| .fl 17 <| .fl 18 <| .fl 19 <| .eff 20 <| .tail [21]) (by kernel_rfl) (by kernel_rfl) ?_
                  have BD : Below W.heap.size W W.drew := (Below.refl _ _).drew
                  have hs27 := BD.size
                  replace hO := hO.keep BD
                  replace z0 := cell_keep z0 BD
                  replace zr0 := cell_keep zr0 BD
                  replace zx0 := cell_keep zx0 BD
                  replace zx1 := cell_keep zx1 BD
                  replace zp := cell_keep zp BD
                  replace zr1 := cell_keep zr1 BD
                  replace zx2 := cell_keep zx2 BD
                  replace zx3 := cell_keep zx3 BD
                  replace hbr := hbr.trans (BD.mono hbr.size)
                  replace bX := bX.trans (BD.mono bX.size)
                  clear BD
                  generalize W.drew = V at *
                  have hk := Below.refl V.heap.size V
                  have g1 := cell_block hO.blk 0
                  have g2 := cell_block hO.blk 1
                  try dsimp only
                  go_wp2_with (first | ((with_reducible refine Calmly.is_fl ?_); refine Calmly.mix_fl rfl ?_ (fun _ _ => ?_); (first | exact .move _ | exact .load _ _ | exact .fieldAddr _ _ _ (by kernel_rfl) | exact .assign _ | exact .binOp _ _ _ _ _ rfl | exact .indexAddr _ _ _ | exact .len _ _ (by kernel_rfl) | exact .field _ _ _ | exact .extract _ _ | exact .pick _ _ _ | exact .build _ _ | exact .slice _ _ _ _ _ | exact .unOp _ _ _ rfl | exact .index _ _ _ | exact .max _ _ _ rfl rfl | exact .min _ _ _ rfl rfl | exact .nilCheck _ _ rfl)) | ((with_reducible refine Calmly.is_gl ?_); refine Calmly.mix_gl rfl rfl rfl ?_; first | ((first | with_reducible refine Calmly.gl_tt ?_ (fun _ _ => ?_) | with_reducible refine Calmly.gl_ff ?_ (fun _ _ => ?_)); (first | exact .move _ | exact .load _ _ | exact .fieldAddr _ _ _ (by kernel_rfl) | exact .assign _ | exact .binOp _ _ _ _ _ rfl | exact .indexAddr _ _ _ | exact .len _ _ (by kernel_rfl) | exact .field _ _ _ | exact .extract _ _ | exact .pick _ _ _ | exact .build _ _ | exact .slice _ _ _ _ _ | exact .unOp _ _ _ rfl | exact .index _ _ _ | exact .max _ _ _ rfl rfl | exact .min _ _ _ rfl rfl | exact .nilCheck _ _ rfl)) | with_reducible refine Calmly.gl_tf (fun _ _ => ?_) | with_reducible refine Calmly.gl_ft (fun _ _ => ?_)) | ((with_reducible refine Calmly.is_eff ?_); refine Calmly.mix_eff rfl (fun _ _ => ?_)) | ((with_reducible refine Calmly.is_gf ?_); refine Calmly.mix_gf rfl rfl rfl ?_; first | with_reducible refine Calmly.gf_tt (fun _ _ => ?_) | with_reducible refine Calmly.gf_ff (fun _ _ => ?_) | with_reducible refine Calmly.gf_tf (kept_of hk) (fun _ _ => ?_) | with_reducible refine Calmly.gf_ft (kept_of hk) (fun _ _ => ?_)) | ((with_reducible refine Calmly.is_tail ?_); first | refine Calmly.mix_tail_nil ?_ | refine Calmly.mix_tail rfl (fun _ _ => ?_)) | ((with_reducible refine Calmly.is_kept ?_); refine ⟨kept_of hk, ?_⟩) | (with_reducible refine Calmly.mix_alt ?_ ?_))
                  refine (Lowest_fm X2 Q0 _ (by omega) (by omega) (by omega) (by omega)).mono ?_
                  rintro e v1 ⟨rfl, hs⟩
                  try dsimp only
                  rw [HF2.out]
                  try dsimp only
                  replace hk := step_of hk hs
                  clear hs g1 g2
                  replace hO := hO.keep hk
                  replace z0 := cell_keep z0 hk
                  replace zr0 := cell_keep zr0 hk
                  replace zx0 := cell_keep zx0 hk
                  replace zx1 := cell_keep zx1 hk
                  replace zp := cell_keep zp hk
                  replace zr1 := cell_keep zr1 hk
                  replace zx2 := cell_keep zx2 hk
                  replace zx3 := cell_keep zx3 hk
                  replace hbr := hbr.trans (hk.mono hbr.size)
                  replace bX := bX.trans (hk.mono bX.size)
                  have g3 := cell_block hO.blk 0
                  have g4 := cell_block hO.blk 1
                  have g5 := frozen_block hO.blk 0
                  have hO2 := hO.set2 M0 1
                  have hOm := hO.set1 M0
                  have g6 := cell_block hOm.blk 1
                  have g7 := frozen_block hOm.blk 1
                  have g8 := frozen_block hO.blk 1
                  clear hOm
                  have bS := (hbr.setCell (p := ⟨q16, 0, none⟩) hWq (.int .i64 M0)).setCell (p := ⟨q16, 1, none⟩) hWq (.int .i64 1)
                  have zx2' := cell_set2 (x := .int .i64 M0) (y := .int .i64 1) zx2 hxq
                  have zx3' := cell_set2 (x := .int .i64 M0) (y := .int .i64 1) zx3 hxq
                  have zp' := cell_set2 (x := .int .i64 M0) (y := .int .i64 1) zp hpq
                  try dsimp only
                  go_wp2_with (first | ((with_reducible refine Calmly.is_fl ?_); refine Calmly.mix_fl rfl ?_ (fun _ _ => ?_); (first | exact .move _ | exact .load _ _ | exact .fieldAddr _ _ _ (by kernel_rfl) | exact .assign _ | exact .binOp _ _ _ _ _ rfl | exact .indexAddr _ _ _ | exact .len _ _ (by kernel_rfl) | exact .field _ _ _ | exact .extract _ _ | exact .pick _ _ _ | exact .build _ _ | exact .slice _ _ _ _ _ | exact .unOp _ _ _ rfl | exact .index _ _ _ | exact .max _ _ _ rfl rfl | exact .min _ _ _ rfl rfl | exact .nilCheck _ _ rfl)) | ((with_reducible refine Calmly.is_gl ?_); refine Calmly.mix_gl rfl rfl rfl ?_; first | ((first | with_reducible refine Calmly.gl_tt ?_ (fun _ _ => ?_) | with_reducible refine Calmly.gl_ff ?_ (fun _ _ => ?_)); (first | exact .move _ | exact .load _ _ | exact .fieldAddr _ _ _ (by kernel_rfl) | exact .assign _ | exact .binOp _ _ _ _ _ rfl | exact .indexAddr _ _ _ | exact .len _ _ (by kernel_rfl) | exact .field _ _ _ | exact .extract _ _ | exact .pick _ _ _ | exact .build _ _ | exact .slice _ _ _ _ _ | exact .unOp _ _ _ rfl | exact .index _ _ _ | exact .max _ _ _ rfl rfl | exact .min _ _ _ rfl rfl | exact .nilCheck _ _ rfl)) | with_reducible refine Calmly.gl_tf (fun _ _ => ?_) | with_reducible refine Calmly.gl_ft (fun _ _ => ?_)) | ((with_reducible refine Calmly.is_eff ?_); refine Calmly.mix_eff rfl (fun _ _ => ?_)) | ((with_reducible refine Calmly.is_gf ?_); refine Calmly.mix_gf rfl rfl rfl ?_; first | with_reducible refine Calmly.gf_tt (fun _ _ => ?_) | with_reducible refine Calmly.gf_ff (fun _ _ => ?_) | with_reducible refine Calmly.gf_tf (kept_of hk) (fun _ _ => ?_) | with_reducible refine Calmly.gf_ft (kept_of hk) (fun _ _ => ?_)) | ((with_reducible refine Calmly.is_tail ?_); first | refine Calmly.mix_tail_nil ?_ | refine Calmly.mix_tail rfl (fun _ _ => ?_)) | ((with_reducible refine Calmly.is_kept ?_); refine ⟨kept_of hk, ?_⟩) | (with_reducible refine Calmly.mix_alt ?_ ?_))
                  clear g3 g4 g5 g6 g7 g8 hk hO zx2 zx3 zp z0 zr0 zx0 zx1 zr1 hbr bX
                  generalize (v1.setCell ⟨q16, 0, none⟩ (.int .i64 M0)).setCell ⟨q16, 1, none⟩ (.int .i64 1) = W9 at *
                  have hbr := bS
                  have bX := Below.refl W9.heap.size W9
                  have hO := hO2
                  have zx2 := zx2'
                  have zx3 := zx3'
                  have zp := zp'
                  clear bS hO2 zx2' zx3' zp'
                  refine Calmly.wp_region_mix 16 (.fl 0 <| .fl 1 <| .fl 2 <| .fl 3 <| .fl 4 <| .fl 5 <| .fl 6 <| .fl 7 <| .fl 8 <| .fl 9 <| .fl 10 <| .fl 11 <| .fl 12 <| .fl 13 <| .alt 14 (.eff 15 <| .tail [16]) (.eff 15 (.eff 14 <| .tail [16]))) (by kernel_rfl) (by kernel_rfl) ?_
                  have BD : Below W9.heap.size W9 W9.drew := (Below.refl _ _).drew
                  have hs28 := BD.size
                  replace hO := hO.keep BD
                  replace zx2 := cell_keep zx2 BD
                  replace zx3 := cell_keep zx3 BD
                  replace zp := cell_keep zp BD
                  replace hbr := hbr.trans (BD.mono hbr.size)
                  replace bX := bX.trans (BD.mono bX.size)
                  clear BD
                  generalize W9.drew = V at *
                  have hk := Below.refl V.heap.size V
                  rename_i K28 hK28
                  have hK28' := fun a w (h : Stop _) => hK28 a w h.out
                  clear hK28
                  have HK28 : ∀ (W : World) (q18 : Nat) (y4 y17 y139 y140 y141 y142 y143 y144 y145 y146 y147 y148 y149 y150 y151 y152 y153 y154 y155 y156 y157 y158 y159 y160 y161 y162 y163 y164 y165 y166 y167 y168 y169 y170 y171 y172 y173 y174 y175 y176 y177 y178 y179 y180 y181 y182 y183 y184 y185 y186 y187 y188 y189 y190 y191 y192 y193 y194 y195 y196 y197 y198 y199 y200 y201 y202 y203 y204 y205 y206 y207 y208 y209 y210 y211 y212 y213 y214 y215 y216 y217 y218 y219 y220 y221 y222 y223 y224 y225 y226 y227 y228 y229 y230 y231 y232 y233 y234 y235 y236 y237 y238 y239 y240 y241 y242 y243 y244 y245 y246 y247 y248 : Value), Below V.heap.size V W → FbW W q18 (S1, 1) → V.heap.size ≤ q18 → K28 { tmps := #[.agg #[.slice a n c], .slice (some ⟨pb, po, none⟩) n pc, .pointer (some ⟨w.heap.size, 0, none⟩), undef, y4, y5, y6, .slice (some ⟨kb, ko, none⟩) n kc, y8, .slice (some ⟨xb, xo, none⟩) n xc, y10, y11, y12, y13, y14, .int .i64 (k : Int), .pointer (some ⟨q16, 0, none⟩), y17, .pointer (some ⟨q18, 0, none⟩), y19, y20, y21, y22, y23, y24, y25, y26, y27, y28, y29, y30, y31, y32, y33, y34, y35, y36, y37, y38, y39, y40, y41, y42, y43, y44, y45, y46, y47, y48, y49, y50, y51, y52, y53, y54, y55, y56, y57, y58, y59, y60, y61, y62, y63, y64, y65, y66, y67, y68, y69, y70, y71, y72, y73, y74, y75, y76, y77, y78, y79, y80, y81, y82, y83, y84, y85, y86, y87, y88, y89, y90, y91, y92, y93, y94, y95, y96, y97, y98, y99, y100, y101, y102, y103, y104, y105, y106, y107, y108, y109, y110, y111, y112, y113, y114, y115, y116, y117, y118, y119, y120, y121, y122, y123, y124, y125, y126, y127, y128, y129, y130, y131, y132, y133, y134, y135, y136, y137, y138, y139, y140, y141, y142, y143, y144, y145, y146, y147, y148, y149, y150, y151, y152, y153, y154, y155, y156, y157, y158, y159, y160, y161, y162, y163, y164, y165, y166, y167, y168, y169, y170, y171, y172, y173, y174, y175, y176, y177, y178, y179, y180, y181, y182, y183, y184, y185, y186, y187, y188, y189, y190, y191, y192, y193, y194, y195, y196, y197, y198, y199, y200, y201, y202, y203, y204, y205, y206, y207, y208, y209, y210, y211, y212, y213, y214, y215, y216, y217, y218, y219, y220, y221, y222, y223, y224, y225, y226, y227, y228, y229, y230, y231, y232, y233, y234, y235, y236, y237, y238, y239, y240, y241, y242, y243, y244, y245, y246, y247, y248], defers := [] } W := by
                    intro W q18 y4 y17 y139 y140 y141 y142 y143 y144 y145 y146 y147 y148 y149 y150 y151 y152 y153 y154 y155 y156 y157 y158 y159 y160 y161 y162 y163 y164 y165 y166 y167 y168 y169 y170 y171 y172 y173 y174 y175 y176 y177 y178 y179 y180 y181 y182 y183 y184 y185 y186 y187 y188 y189 y190 y191 y192 y193 y194 y195 y196 y197 y198 y199 y200 y201 y202 y203 y204 y205 y206 y207 y208 y209 y210 y211 y212 y213 y214 y215 y216 y217 y218 y219 y220 y221 y222 y223 y224 y225 y226 y227 y228 y229 y230 y231 y232 y233 y234 y235 y236 y237 y238 y239 y240 y241 y242 y243 y244 y245 y246 y247 y248 hb hU hq
                    refine hK28' _ _ ⟨?_⟩
                    clear hK28' hk
                    replace hO := hO.keep hb
                    replace zx2 := cell_keep zx2 hb
                    replace zx3 := cell_keep zx3 hb
                    replace zp := cell_keep zp hb
                    replace hbr := hbr.trans (hb.mono hbr.size)
                    replace bX := bX.trans (hb.mono bX.size)
                    clear hb
                    clear hq hs28
                    try dsimp only
                    go_wp2_with fail
                    refine Calmly.wp_region_mix 20 (.fl 0 <| .fl 1 <| .fl 2 <| .fl 3 <| .gl 4 <| .gl 5 <| .gl 6 <| .fl 7 <| .fl 8 <| .gl 9 <| .gl 10 <| .gl 11 <| .gl 12 <| .gl 13 <| .gl 14 <| .gl 15 <| .gl 16 <| .gl 17 <| .gl 18 <| .gl 19 <| .tail [20]) (by kernel_rfl) (by kernel_rfl) ?_
                    have BD : Below W.heap.size W W.drew := (Below.refl _ _).drew
                    have hs29 := BD.size
                    replace hO := hO.keep BD
                    replace hU := hU.keep BD
                    replace zx2 := cell_keep zx2 BD
                    replace zx3 := cell_keep zx3 BD
                    replace zp := cell_keep zp BD
                    replace hbr := hbr.trans (BD.mono hbr.size)
                    replace bX := bX.trans (BD.mono bX.size)
                    clear BD
                    generalize W.drew = V at *
                    have hk := Below.refl V.heap.size V
                    have g1 := cell_block hO.blk 0
                    have g2 := cell_block hO.blk 1
                    have g3 := cell_block hU.blk 0
                    have g4 := cell_block hU.blk 1
                    have c2 : ((1 : Int) != 1) = false := rfl
                    try dsimp only
                    go_wp2_with (first | ((with_reducible refine Calmly.is_fl ?_); refine Calmly.mix_fl rfl ?_ (fun _ _ => ?_); (first | exact .move _ | exact .load _ _ | exact .fieldAddr _ _ _ (by kernel_rfl) | exact .assign _ | exact .binOp _ _ _ _ _ rfl | exact .indexAddr _ _ _ | exact .len _ _ (by kernel_rfl) | exact .field _ _ _ | exact .extract _ _ | exact .pick _ _ _ | exact .build _ _ | exact .slice _ _ _ _ _ | exact .unOp _ _ _ rfl | exact .index _ _ _ | exact .max _ _ _ rfl rfl | exact .min _ _ _ rfl rfl | exact .nilCheck _ _ rfl)) | ((with_reducible refine Calmly.is_gl ?_); refine Calmly.mix_gl rfl rfl rfl ?_; first | ((first | with_reducible refine Calmly.gl_tt ?_ (fun _ _ => ?_) | with_reducible refine Calmly.gl_ff ?_ (fun _ _ => ?_)); (first | exact .move _ | exact .load _ _ | exact .fieldAddr _ _ _ (by kernel_rfl) | exact .assign _ | exact .binOp _ _ _ _ _ rfl | exact .indexAddr _ _ _ | exact .len _ _ (by kernel_rfl) | exact .field _ _ _ | exact .extract _ _ | exact .pick _ _ _ | exact .build _ _ | exact .slice _ _ _ _ _ | exact .unOp _ _ _ rfl | exact .index _ _ _ | exact .max _ _ _ rfl rfl | exact .min _ _ _ rfl rfl | exact .nilCheck _ _ rfl)) | with_reducible refine Calmly.gl_tf (fun _ _ => ?_) | with_reducible refine Calmly.gl_ft (fun _ _ => ?_)) | ((with_reducible refine Calmly.is_eff ?_); refine Calmly.mix_eff rfl (fun _ _ => ?_)) | ((with_reducible refine Calmly.is_gf ?_); refine Calmly.mix_gf rfl rfl rfl ?_; first | with_reducible refine Calmly.gf_tt (fun _ _ => ?_) | with_reducible refine Calmly.gf_ff (fun _ _ => ?_) | with_reducible refine Calmly.gf_tf (kept_of hk) (fun _ _ => ?_) | with_reducible refine Calmly.gf_ft (kept_of hk) (fun _ _ => ?_)) | ((with_reducible refine Calmly.is_tail ?_); first | refine Calmly.mix_tail_nil ?_ | refine Calmly.mix_tail rfl (fun _ _ => ?_)) | ((with_reducible refine Calmly.is_kept ?_); refine ⟨kept_of hk, ?_⟩) | (with_reducible refine Calmly.mix_alt ?_ ?_))
                    replace hbr := hbr.trans (hk.mono hbr.size)
                    go_roundw
                    case rel => exact ⟨k + 1, by omega, by go_num, hbr⟩
                    case measure => simp [intOf]; omega
                  clear hK28'
                  have HK28' := Lib.hid HK28
                  clear HK28
                  try dsimp only
                  go_wp2_with (first | ((with_reducible refine kept_st2M hk hq z15 (fun hk' hn => ?_)); replace hk := hk'; clear hk'; generalize World.setCell (World.setCell _ _ _) _ _ = W2 at *) | ((with_reducible refine Calmly.is_fl ?_); refine Calmly.mix_fl rfl ?_ (fun _ _ => ?_); (first | exact .move _ | exact .load _ _ | exact .fieldAddr _ _ _ (by kernel_rfl) | exact .assign _ | exact .binOp _ _ _ _ _ rfl | exact .indexAddr _ _ _ | exact .len _ _ (by kernel_rfl) | exact .field _ _ _ | exact .extract _ _ | exact .pick _ _ _ | exact .build _ _ | exact .slice _ _ _ _ _ | exact .unOp _ _ _ rfl | exact .index _ _ _ | exact .max _ _ _ rfl rfl | exact .min _ _ _ rfl rfl | exact .nilCheck _ _ rfl)) | ((with_reducible refine Calmly.is_gl ?_); refine Calmly.mix_gl rfl rfl rfl ?_; first | ((first | with_reducible refine Calmly.gl_tt ?_ (fun _ _ => ?_) | with_reducible refine Calmly.gl_ff ?_ (fun _ _ => ?_)); (first | exact .move _ | exact .load _ _ | exact .fieldAddr _ _ _ (by kernel_rfl) | exact .assign _ | exact .binOp _ _ _ _ _ rfl | exact .indexAddr _ _ _ | exact .len _ _ (by kernel_rfl) | exact .field _ _ _ | exact .extract _ _ | exact .pick _ _ _ | exact .build _ _ | exact .slice _ _ _ _ _ | exact .unOp _ _ _ rfl | exact .index _ _ _ | exact .max _ _ _ rfl rfl | exact .min _ _ _ rfl rfl | exact .nilCheck _ _ rfl)) | with_reducible refine Calmly.gl_tf (fun _ _ => ?_) | with_reducible refine Calmly.gl_ft (fun _ _ => ?_)) | ((with_reducible refine Calmly.is_eff ?_); refine Calmly.mix_eff rfl (fun _ _ => ?_)) | ((with_reducible refine Calmly.is_gf ?_); refine Calmly.mix_gf rfl rfl rfl ?_; first | with_reducible refine Calmly.gf_tt (fun _ _ => ?_) | with_reducible refine Calmly.gf_ff (fun _ _ => ?_) | with_reducible refine Calmly.gf_tf (kept_of hk) (fun _ _ => ?_) | with_reducible refine Calmly.gf_ft (kept_of hk) (fun _ _ => ?_)) | ((with_reducible refine Calmly.is_tail ?_); first | refine Calmly.mix_tail_nil ?_ | refine Calmly.mix_tail rfl (fun _ _ => ?_)) | ((with_reducible refine Calmly.is_kept ?_); refine ⟨kept_of hk, ?_⟩) | (with_reducible refine Calmly.mix_alt ?_ ?_) | (go_at_call 75; refine (Lowest_fm X3 Q1 _ (by omega) (by omega) (by omega) (by omega)).mono ?_; rintro e v1 ⟨rfl, hb1⟩; (try dsimp only); rw [HF3.out]; (try dsimp only); replace hk := step_of hk hb1; (try (replace z15 := blk_keep z15 hb1)); (try have z0 := cell_block z15 0); (try have x0' := frozen_block z15 0); (try have z1 := cell_block z15 1); (try have x1' := frozen_block z15 1); clear hb1) | (refine kept_allocF hk (fun hk' hA hblk => ?_); have hq := hk.size; replace hk := hk'; clear hk'; have z15 := hblk; clear hblk hA; (try have z0 := cell_block z15 0); (try have x0' := frozen_block z15 0); (try have z1 := cell_block z15 1); (try have x1' := frozen_block z15 1); generalize World.alloc _ (.cells #[.int .i64 0, .int .i64 0] 77) = X15 at *))
                  all_goals
                    apply HK28'.out
                    · exact (hk.setCell (p := ⟨_, 0, none⟩) hq _).setCell (p := ⟨_, 1, none⟩) hq _
                    · exact FbW.set2 (z := (0, 0)) ⟨z15⟩ _ _
                    · exact hq
              clear hK24'
              have HK24' := Lib.hid HK24
              clear HK24
              try dsimp only
              go_wp2_with (first | ((with_reducible refine kept_st2M hk hq z15 (fun hk' hn => ?_)); replace hk := hk'; clear hk'; generalize World.setCell (World.setCell _ _ _) _ _ = W2 at *) | ((with_reducible refine Calmly.is_fl ?_); refine Calmly.mix_fl rfl ?_ (fun _ _ => ?_); (first | exact .move _ | exact .load _ _ | exact .fieldAddr _ _ _ (by kernel_rfl) | exact .assign _ | exact .binOp _ _ _ _ _ rfl | exact .indexAddr _ _ _ | exact .len _ _ (by kernel_rfl) | exact .field _ _ _ | exact .extract _ _ | exact .pick _ _ _ | exact .build _ _ | exact .slice _ _ _ _ _ | exact .unOp _ _ _ rfl | exact .index _ _ _ | exact .max _ _ _ rfl rfl | exact .min _ _ _ rfl rfl | exact .nilCheck _ _ rfl)) | ((with_reducible refine Calmly.is_gl ?_); refine Calmly.mix_gl rfl rfl rfl ?_; first | ((first | with_reducible refine Calmly.gl_tt ?_ (fun _ _ => ?_) | with_reducible refine Calmly.gl_ff ?_ (fun _ _ => ?_)); (first | exact .move _ | exact .load _ _ | exact .fieldAddr _ _ _ (by kernel_rfl) | exact .assign _ | exact .binOp _ _ _ _ _ rfl | exact .indexAddr _ _ _ | exact .len _ _ (by kernel_rfl) | exact .field _ _ _ | exact .extract _ _ | exact .pick _ _ _ | exact .build _ _ | exact .slice _ _ _ _ _ | exact .unOp _ _ _ rfl | exact .index _ _ _ | exact .max _ _ _ rfl rfl | exact .min _ _ _ rfl rfl | exact .nilCheck _ _ rfl)) | with_reducible refine Calmly.gl_tf (fun _ _ => ?_) | with_reducible refine Calmly.gl_ft (fun _ _ => ?_)) | ((with_reducible refine Calmly.is_eff ?_); refine Calmly.mix_eff rfl (fun _ _ => ?_)) | ((with_reducible refine Calmly.is_gf ?_); refine Calmly.mix_gf rfl rfl rfl ?_; first | with_reducible refine Calmly.gf_tt (fun _ _ => ?_) | with_reducible refine Calmly.gf_ff (fun _ _ => ?_) | with_reducible refine Calmly.gf_tf (kept_of hk) (fun _ _ => ?_) | with_reducible refine Calmly.gf_ft (kept_of hk) (fun _ _ => ?_)) | ((with_reducible refine Calmly.is_tail ?_); first | refine Calmly.mix_tail_nil ?_ | refine Calmly.mix_tail rfl (fun _ _ => ?_)) | ((with_reducible refine Calmly.is_kept ?_); refine ⟨kept_of hk, ?_⟩) | (with_reducible refine Calmly.mix_alt ?_ ?_) | (go_at_call 75; refine (Lowest_fm X1 Q0 _ (by omega) (by omega) (by omega) (by omega)).mono ?_; rintro e v1 ⟨rfl, hb1⟩; (try dsimp only); rw [HO.out]; (try dsimp only); replace hk := step_of hk hb1; (try (replace z15 := blk_keep z15 hb1)); (try have z0 := cell_block z15 0); (try have x0' := frozen_block z15 0); (try have z1 := cell_block z15 1); (try have x1' := frozen_block z15 1); clear hb1) | (refine kept_allocF hk (fun hk' hA hblk => ?_); have hq := hk.size; replace hk := hk'; clear hk'; have z15 := hblk; clear hblk hA; (try have z0 := cell_block z15 0); (try have x0' := frozen_block z15 0); (try have z1 := cell_block z15 1); (try have x1' := frozen_block z15 1); generalize World.alloc _ (.cells #[.int .i64 0, .int .i64 0] 77) = X15 at *))
              all_goals
                apply HK24'.out
                · exact (hk.setCell (p := ⟨_, 0, none⟩) hq _).setCell (p := ⟨_, 1, none⟩) hq _
                · exact FbW.set2 (z := (0, 0)) ⟨z15⟩ _ _
                · exact hq
        clear hKB' hK hX
        have HKB' := Lib.hid HKB
        clear HKB
        try dsimp only
        go_wp2_with fail
        apply HKB'.out
end Go.Proofs.Ytaiikekgckjdeaa
