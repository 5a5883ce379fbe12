/- The factor of a quantity. The factor as a fraction. A value scaled. A value scaled to the model and to the full structure. -/
import Derived.Test.YtaiikekgckjdeaaGreatK14
namespace Go.Proofs.YtaiikekgckjdeaaGreat
open Go.RowKit Go.Maps
open Calmly (Kept)
theorem ixf0 (n1 d1 n2 d2 n3 d3 : Int) (w : World) : Sem.run Tryz.prog (Instr.index 28 (.agg #[.int .i64 n1, .int .i64 d1, .int .i64 n2, .int .i64 d2, .int .i64 n3, .int .i64 d3]) (.int .i64 0)) w = .ok (.agg #[.int .i64 n1, .int .i64 d1]) w := by kernel_rfl
theorem ixf1 (n1 d1 n2 d2 n3 d3 : Int) (w : World) : Sem.run Tryz.prog (Instr.index 28 (.agg #[.int .i64 n1, .int .i64 d1, .int .i64 n2, .int .i64 d2, .int .i64 n3, .int .i64 d3]) (.int .i64 1)) w = .ok (.agg #[.int .i64 n2, .int .i64 d2]) w := by kernel_rfl
theorem ixf2 (n1 d1 n2 d2 n3 d3 : Int) (w : World) : Sem.run Tryz.prog (Instr.index 28 (.agg #[.int .i64 n1, .int .i64 d1, .int .i64 n2, .int .i64 d2, .int .i64 n3, .int .i64 d3]) (.int .i64 2)) w = .ok (.agg #[.int .i64 n3, .int .i64 d3]) w := by kernel_rfl
theorem OwQ.new (w : World) : OwQ (w.alloc (.map #[] 0)) w.heap.size 0 0 1 := ⟨.map [], [], World.ownsMap_made w _ _ _, QV.nil 0, rfl⟩
theorem OwQ.keep {w w' : World} {b n : Nat} {M : Int} {v : Rat} (h : OwQ w b n M v) (hb : Below w.heap.size w w') : OwQ w' b n M v := by
  obtain ⟨D, l, ⟨es, clock, h1, h2⟩, h3, h4⟩ := h
  exact ⟨D, l, ⟨es, clock, blk_keep h1 hb, h2⟩, h3, h4⟩
theorem OwQ.mono {w : World} {b n n' : Nat} {M M' : Int} {v : Rat} (h : OwQ w b n M v) (hn : n ≤ n') (hM : M ≤ M') : OwQ w b n' M' v := by
  obtain ⟨D, l, h1, h2, h3⟩ := h
  exact ⟨D, l, h1.mono hn, h2.mono hM, h3⟩
/-- The factor, as the program gathers it: after so many scales. -/
def fcP (n1 d1 n2 d2 n3 d3 a b c : Int) : Nat → Rat
  | 0 => 1
  | 1 => 1 * (n1 : Rat) ^ a * (d1 : Rat) ^ (-a)
  | 2 => 1 * (n1 : Rat) ^ a * (d1 : Rat) ^ (-a) * (n2 : Rat) ^ b * (d2 : Rat) ^ (-b)
  | _ => 1 * (n1 : Rat) ^ a * (d1 : Rat) ^ (-a) * (n2 : Rat) ^ b * (d2 : Rat) ^ (-b) * (n3 : Rat) ^ c * (d3 : Rat) ^ (-c)
def facV (n1 d1 n2 d2 n3 d3 a b c : Int) : Rat := fcP n1 d1 n2 d2 n3 d3 a b c 3
def facH (n1 d1 n2 d2 n3 d3 a b c : Int) : Int := firstE [(sclE (fs3 n1 d1 n2 d2 n3 d3)).2, qtyE a b c]
def facE (n1 d1 n2 d2 n3 d3 a b c : Int) : Int := if facH n1 d1 n2 d2 n3 d3 a b c = 0 then unlessE (fcOk (facV n1 d1 n2 d2 n3 d3 a b c)) 8 else facH n1 d1 n2 d2 n3 d3 a b c
theorem sclErr_ok {x : Fr} (h : sclErr x = 0) : (0 < x.2 ∧ Int.gcd x.1 x.2 = 1) ∧ (1 ≤ x.1 ∧ x.1 ≤ 100) ∧ x.2 ≤ 100 := by
  unfold sclErr at h
  cases h1 : isLow x.1 x.2
  · simp [h1, firstE, unlessE] at h
  · cases h2 : (wIn x.1 1 100 && decide (x.2 ≤ 100))
    · simp [h1, h2, firstE, unlessE] at h
    · rw [isLow, Bool.and_eq_true, decide_eq_true_eq, beq_iff_eq] at h1
      rw [Bool.and_eq_true, decide_eq_true_eq] at h2
      exact ⟨⟨h1.1, by exact_mod_cast h1.2⟩, wIn_iff.1 h2.1, h2.2⟩
theorem exB3 {a b c : Int} (h : exB [a, b, c] 3 = true) : (-4 ≤ a ∧ a ≤ 4) ∧ (-4 ≤ b ∧ b ≤ 4) ∧ (-4 ≤ c ∧ c ≤ 4) :=
  ⟨szd_iff.1 (exB_all h 0 (by omega)), szd_iff.1 (exB_all h 1 (by omega)), szd_iff.1 (exB_all h 2 (by omega))⟩
structure FacOk (n1 d1 n2 d2 n3 d3 a b c : Int) : Prop where
  s1 : (1 ≤ n1 ∧ n1 ≤ 100) ∧ (1 ≤ d1 ∧ d1 ≤ 100) ∧ Int.gcd n1 d1 = 1
  s2 : (1 ≤ n2 ∧ n2 ≤ 100) ∧ (1 ≤ d2 ∧ d2 ≤ 100) ∧ Int.gcd n2 d2 = 1
  s3 : (1 ≤ n3 ∧ n3 ≤ 100) ∧ (1 ≤ d3 ∧ d3 ≤ 100) ∧ Int.gcd n3 d3 = 1
  q : (-4 ≤ a ∧ a ≤ 4) ∧ (-4 ≤ b ∧ b ≤ 4) ∧ (-4 ≤ c ∧ c ≤ 4)
theorem sclE_ok {n1 d1 n2 d2 n3 d3 : Int} (h : (sclE (fs3 n1 d1 n2 d2 n3 d3)).2 = 0) : sclErr (n1, d1) = 0 ∧ sclErr (n2, d2) = 0 ∧ sclErr (n3, d3) = 0 := by
  have h1 := eaF_all (err := fun i => sclErr ((fs3 n1 d1 n2 d2 n3 d3)[i]?.getD fr0)) (n := 3) (k := 0) (m := 3) rfl h
  exact ⟨h1 0 (by omega) (by omega), h1 1 (by omega) (by omega), h1 2 (by omega) (by omega)⟩
theorem facH_ok {n1 d1 n2 d2 n3 d3 a b c : Int} (h : facH n1 d1 n2 d2 n3 d3 a b c = 0) : FacOk n1 d1 n2 d2 n3 d3 a b c := by
  unfold facH at h
  have hs : (sclE (fs3 n1 d1 n2 d2 n3 d3)).2 = 0 := by
    by_cases hs : (sclE (fs3 n1 d1 n2 d2 n3 d3)).2 = 0
    · exact hs
    · simp [firstE, hs] at h
  have hq : exB [a, b, c] 3 = true := by
    cases hq : exB [a, b, c] 3
    · simp [firstE, hs, qtyE, hq, unlessE] at h
    · rfl
  obtain ⟨h1, h2, h3⟩ := sclE_ok hs
  have k1 := sclErr_ok h1
  have k2 := sclErr_ok h2
  have k3 := sclErr_ok h3
  dsimp only at k1 k2 k3
  exact ⟨⟨k1.2.1, ⟨by omega, k1.2.2⟩, k1.1.2⟩, ⟨k2.2.1, ⟨by omega, k2.2.2⟩, k2.1.2⟩, ⟨k3.2.1, ⟨by omega, k3.2.2⟩, k3.1.2⟩, exB3 hq⟩
theorem timesI_any (b cap : Nat) (n pw M : Int) (v : Rat) (w : World) (h : OwQ w b cap M v) (hn : 1 ≤ n ∧ n ≤ 1000000000) (hp : -4 ≤ pw ∧ pw ≤ 4) (hM : 0 ≤ M ∧ M ≤ 100000) (hc : cap ≤ 1000000) :
    Calls Tryz.prog 72 #[.map (some b), .int .i64 n, .int .i64 pw] w fun e w' => e = .returned (.tuple #[]) ∧ OwQ w' b (cap + 30) (M + 120) (v * (n : Rat) ^ pw) ∧ w.grownBy w' (some b) := by
  obtain ⟨N, rfl⟩ : ∃ N : Nat, n = (N : Int) := ⟨n.toNat, by omega⟩
  exact times_any b cap N pw M v w h (by omega) hp hM hc
/-- What lies between two rounds. -/
structure FaI (w : World) (n1 d1 n2 d2 n3 d3 a b c : Int) (mb k : Nat) (wr : World) : Prop where
  bel : Below w.heap.size w wr
  t2 : wr.heap[w.heap.size]? = some (.cells #[.int .i64 n1, .int .i64 d1, .int .i64 n2, .int .i64 d2, .int .i64 n3, .int .i64 d3] 28)
  t3 : wr.heap[w.heap.size + 1]? = some (.cells #[.int .i64 a, .int .i64 b, .int .i64 c] 53)
  own : OwQ wr mb (60 * k) (240 * (k : Int)) (fcP n1 d1 n2 d2 n3 d3 a b c k)
theorem FaI.keep {w : World} {n1 d1 n2 d2 n3 d3 a b c : Int} {mb k : Nat} {wr W : World} (h : FaI w n1 d1 n2 d2 n3 d3 a b c mb k wr) (hb : Below wr.heap.size wr W) : FaI w n1 d1 n2 d2 n3 d3 a b c mb k W :=
  ⟨h.bel.trans (hb.mono h.bel.size), blk_keep h.t2 hb, blk_keep h.t3 hb, h.own.keep hb⟩
/-- What the factor hands back. -/
structure FacR (w w' : World) (E : Int) (mp : Option Nat) (v : Rat) : Prop where
  own : E = 0 → ∃ mb, mp = some mb ∧ w.heap.size ≤ mb ∧ OwQ w' mb 180 720 v
  bel : Below w.heap.size w w'
set_option maxRecDepth 100000 in
set_option maxHeartbeats 2000000 in
theorem factor_any (n1 d1 n2 d2 n3 d3 a b c : Int) (w : World) (h1 : F64 n1 d1) (h2 : F64 n2 d2) (h3 : F64 n3 d3) :
    Calls Tryz.prog 58 #[.agg #[.int .i64 n1, .int .i64 d1, .int .i64 n2, .int .i64 d2, .int .i64 n3, .int .i64 d3], .agg #[.int .i64 a, .int .i64 b, .int .i64 c]] w fun e w' => ∃ mp, e = .returned (.tuple #[.map mp, .int .i64 (facE n1 d1 n2 d2 n3 d3 a b c)]) ∧ FacR w w' (facE n1 d1 n2 d2 n3 d3 a b c) mp (facV n1 d1 n2 d2 n3 d3 a b c) := by
  have y0 := blk_keep (alloc_new w (.cells #[.int .i64 n1, .int .i64 d1, .int .i64 n2, .int .i64 d2, .int .i64 n3, .int .i64 d3] 28)) ((Below.refl _ _).alloc (Nat.le_refl _) (.cells #[.int .i64 a, .int .i64 b, .int .i64 c] 53))
  have y1 := alloc_new (w.alloc (.cells #[.int .i64 n1, .int .i64 d1, .int .i64 n2, .int .i64 d2, .int .i64 n3, .int .i64 d3] 28)) (.cells #[.int .i64 a, .int .i64 b, .int .i64 c] 53)
  have BW : Below w.heap.size w ((w.alloc (.cells #[.int .i64 n1, .int .i64 d1, .int .i64 n2, .int .i64 d2, .int .i64 n3, .int .i64 d3] 28)).alloc (.cells #[.int .i64 a, .int .i64 b, .int .i64 c] 53)) := ((Below.refl _ _).alloc (Nat.le_refl _) _).alloc (by simp) _
  simp only [World.size_alloc] at y1
  obtain ⟨H, hH⟩ : ∃ H, facH n1 d1 n2 d2 n3 d3 a b c = H := ⟨_, rfl⟩
  have hE : facE n1 d1 n2 d2 n3 d3 a b c = if H = 0 then unlessE (fcOk (facV n1 d1 n2 d2 n3 d3 a b c)) 8 else H := by rw [facE, hH]
  obtain ⟨E, hEE⟩ : ∃ E, facE n1 d1 n2 d2 n3 d3 a b c = E := ⟨_, rfl⟩
  obtain ⟨V, hV⟩ : ∃ V, facV n1 d1 n2 d2 n3 d3 a b c = V := ⟨_, rfl⟩
  rw [hEE, hV] at hE
  rw [hEE, hV]
  have HE := Lib.hid hE
  have HV := Lib.hid hV
  have hH2 : firstE [(sclE (fs3 n1 d1 n2 d2 n3 d3)).2, qtyE a b c] = H := hH
  obtain ⟨S, hS⟩ : ∃ S, (sclE (fs3 n1 d1 n2 d2 n3 d3)).2 = S := ⟨_, rfl⟩
  obtain ⟨S1, hS1⟩ : ∃ S, (sclE (fs3 n1 d1 n2 d2 n3 d3)).1 = S := ⟨_, rfl⟩
  obtain ⟨Q, hQ⟩ : ∃ Q, qtyE a b c = Q := ⟨_, rfl⟩
  rw [hS, hQ] at hH2
  have HH := Lib.hid hH
  have HH2 := Lib.hid hH2
  have HS := Lib.hid hS
  have HS1 := Lib.hid hS1
  have HQ := Lib.hid hQ
  clear hH hH2 hE hEE hV hS hS1 hQ
  have hmm := @run_makeMap Tryz.prog
  go_enter Tryz.func58, Tryz.ntmps58
  go_wp2_with fail
  generalize (w.alloc (.cells #[.int .i64 n1, .int .i64 d1, .int .i64 n2, .int .i64 d2, .int .i64 n3, .int .i64 d3] 28)).alloc (.cells #[.int .i64 a, .int .i64 b, .int .i64 c] 53) = W at *
  refine (CheckScales_any n1 d1 n2 d2 n3 d3 W h1 h2 h3).mono ?_
  rintro e w1 ⟨rfl, hs1⟩
  rw [HS.out, HS1.out]
  replace y0 := blk_keep y0 hs1
  replace y1 := blk_keep y1 hs1
  replace BW := BW.trans (hs1.mono BW.size)
  have f0 := cell_block y1 0
  have f1 := cell_block y1 1
  have f2 := cell_block y1 2
  go_wp2_with fail
  refine (quantityErr_any a b c _).mono ?_
  rintro e w2 ⟨rfl, hs2⟩
  rw [HQ.out]
  replace y0 := blk_keep y0 hs2
  replace y1 := blk_keep y1 hs2
  replace BW := BW.trans (hs2.mono BW.size)
  go_wp2_with fail
  refine (dFirst_any _ 2 2 _ _ (SI.two _ _ _ _ rfl)).mono ?_
  rintro e w3 ⟨rfl, rfl⟩
  rw [HH2.out]
  have BA := (Below.refl w2.heap.size w2).alloc (Nat.le_refl _) (.cells #[.int .i64 S, .int .i64 Q] 33)
  replace y0 := blk_keep y0 BA
  replace y1 := blk_keep y1 BA
  replace BW := BW.trans (BA.mono BW.size)
  by_cases hz : H = 0
  case neg =>
    have b1 : (H != 0) = true := by simpa using hz
    have HZ := Lib.hid hz
    clear hz
    go_wp2_with fail
    have he : E = H := by rw [HE.out, if_neg HZ.out]
    refine bodyPost_ret (v := .tuple #[.map none, .int .i64 H]) (by simp [results, Tryz.results58, go_sem]) rfl ⟨none, by rw [he], fun h => absurd (he.symm.trans h) HZ.out, BW⟩
  case pos =>
    have hok := facH_ok (HH.out.trans hz)
    have HOK := Lib.hid hok
    have b1 : (H != 0) = false := by rw [hz]; rfl
    have HZ := Lib.hid hz
    clear hz
    generalize w2.alloc (.cells #[.int .i64 S, .int .i64 Q] 33) = W3 at *
    have y1' := y1
    have BM := (Below.refl W3.heap.size W3).alloc (Nat.le_refl _) (.map #[] 0)
    have hO := OwQ.new W3
    have hmb := BW.size
    replace y0 := blk_keep y0 BM
    replace y1 := blk_keep y1 BM
    replace BW := BW.trans (BM.mono BW.size)
    have hg0 := cell_block y0 0
    have hg1 := cell_block y0 1
    have hg2 := cell_block y0 2
    have hg3 := cell_block y0 3
    have hg4 := cell_block y0 4
    have hg5 := cell_block y0 5
    go_wp2_with fail
    have hI : FaI w n1 d1 n2 d2 n3 d3 a b c W3.heap.size 0 (W3.alloc (.map #[] 0)) := ⟨BW, y0, y1, hO⟩
    have hlt0 := blk_lt y0
    have hlt1 := blk_lt y1
    simp only [World.size_alloc] at hlt0 hlt1
    obtain ⟨mb, hmbe⟩ : ∃ mb, W3.heap.size = mb := ⟨_, rfl⟩
    have hmb2 : w.heap.size + 1 < mb := by
      have h2 := BA.size
      have h3 := blk_lt y1'
      omega
    rw [hmbe] at hI hmb ⊢
    generalize W3.alloc (.map #[] 0) = WM at *
    go_loopw [28] (fun i wr => ∃ k : Nat, k ≤ 3 ∧ i = .int .i64 k ∧ FaI w n1 d1 n2 d2 n3 d3 a b c mb k wr) (fun i _ => 3 - (intOf i).toNat)
    case atStart => exact ⟨0, by omega, rfl, hI⟩
    case round =>
      clear hI y0 y1 hO BM BW hg0 hg1 hg2 hg3 hg4 hg5
      obtain ⟨k, hk3, rfl, hI⟩ := hrel
      have hmlt := hI.own.lt
      rcases (by omega : k = 0 ∨ k = 1 ∨ k = 2 ∨ k = 3) with rfl | rfl | rfl | rfl
      · have hix := ixf0 n1 d1 n2 d2 n3 d3 wr
        have x0 := alloc_new wr (.cells #[.int .i64 n1, .int .i64 d1] 27)
        have BA := (Below.refl wr.heap.size wr).alloc (Nat.le_refl _) (.cells #[.int .i64 n1, .int .i64 d1] 27)
        have hi1 : (0 : Int) < 3 := by omega
        go_wp2_with fail
        refine Calmly.wp_region_mix 6 (.fl 0 <| .fl 1 <| .fl 2 <| .fl 3 <| .fl 4 <| .fl 5 <| .tail [6]) (by kernel_rfl) (by kernel_rfl) ?_
        have hI1 := (hI.keep BA).keep (Below.refl _ _).drew
        replace x0 := blk_keep x0 (Below.refl _ _).drew
        have hxs := blk_lt x0
        generalize World.drew _ = V5 at *
        have g0 := cell_block hI1.t3 0
        have g1 := cell_block x0 0
        have hk5 := Below.refl V5.heap.size V5
        go_wp2_with (first | ((with_reducible refine Calmly.is_fl ?_); refine Calmly.mix_fl rfl ?_ (fun _ _ => ?_); (first | exact .move _ | exact .load _ _ | exact .fieldAddr _ _ _ (by kernel_rfl) | exact .assign _ | exact .binOp _ _ _ _ _ rfl | exact .indexAddr _ _ _ | exact .len _ _ (by kernel_rfl) | exact .field _ _ _ | exact .extract _ _ | exact .pick _ _ _ | exact .build _ _ | exact .slice _ _ _ _ _ | exact .unOp _ _ _ rfl | exact .index _ _ _ | exact .max _ _ _ rfl rfl | exact .min _ _ _ rfl rfl | exact .nilCheck _ _ rfl)) | ((with_reducible refine Calmly.is_gl ?_); refine Calmly.mix_gl rfl rfl rfl ?_; first | ((first | with_reducible refine Calmly.gl_tt ?_ (fun _ _ => ?_) | with_reducible refine Calmly.gl_ff ?_ (fun _ _ => ?_)); (first | exact .move _ | exact .load _ _ | exact .fieldAddr _ _ _ (by kernel_rfl) | exact .assign _ | exact .binOp _ _ _ _ _ rfl | exact .indexAddr _ _ _ | exact .len _ _ (by kernel_rfl) | exact .field _ _ _ | exact .extract _ _ | exact .pick _ _ _ | exact .build _ _ | exact .slice _ _ _ _ _ | exact .unOp _ _ _ rfl | exact .index _ _ _ | exact .max _ _ _ rfl rfl | exact .min _ _ _ rfl rfl | exact .nilCheck _ _ rfl)) | with_reducible refine Calmly.gl_tf (fun _ _ => ?_) | with_reducible refine Calmly.gl_ft (fun _ _ => ?_)) | ((with_reducible refine Calmly.is_eff ?_); refine Calmly.mix_eff rfl (fun _ _ => ?_)) | ((with_reducible refine Calmly.is_gf ?_); refine Calmly.mix_gf rfl rfl rfl ?_; first | with_reducible refine Calmly.gf_tt (fun _ _ => ?_) | with_reducible refine Calmly.gf_ff (fun _ _ => ?_) | with_reducible refine Calmly.gf_tf (kept_of hk) (fun _ _ => ?_) | with_reducible refine Calmly.gf_ft (kept_of hk) (fun _ _ => ?_)) | ((with_reducible refine Calmly.is_tail ?_); first | refine Calmly.mix_tail_nil ?_ | refine Calmly.mix_tail rfl (fun _ _ => ?_)) | ((with_reducible refine Calmly.is_kept ?_); refine ⟨kept_of hk, ?_⟩) | (with_reducible refine Calmly.mix_alt ?_ ?_))
        refine (timesI_any mb _ n1 a _ _ _ hI1.own (by have := HOK.out.s1; omega) (by have := HOK.out.q; omega) (by omega) (by omega)).mono ?_
        rintro e w6 ⟨rfl, hO6, hg6⟩
        have ht2 := (hg6.block _ (blk_lt hI1.t2) (by simp; omega)).trans hI1.t2
        have ht3 := (hg6.block _ (blk_lt hI1.t3) (by simp; omega)).trans hI1.t3
        have hx6 := (hg6.block _ (blk_lt x0) (by simp; omega)).trans x0
        have hB6 := hI1.bel.trans (grown_below hg6 hI1.bel.size (fun j e => by cases e; omega))
        clear g0 g1
        go_wp2_with (first | ((with_reducible refine Calmly.is_fl ?_); refine Calmly.mix_fl rfl ?_ (fun _ _ => ?_); (first | exact .move _ | exact .load _ _ | exact .fieldAddr _ _ _ (by kernel_rfl) | exact .assign _ | exact .binOp _ _ _ _ _ rfl | exact .indexAddr _ _ _ | exact .len _ _ (by kernel_rfl) | exact .field _ _ _ | exact .extract _ _ | exact .pick _ _ _ | exact .build _ _ | exact .slice _ _ _ _ _ | exact .unOp _ _ _ rfl | exact .index _ _ _ | exact .max _ _ _ rfl rfl | exact .min _ _ _ rfl rfl | exact .nilCheck _ _ rfl)) | ((with_reducible refine Calmly.is_gl ?_); refine Calmly.mix_gl rfl rfl rfl ?_; first | ((first | with_reducible refine Calmly.gl_tt ?_ (fun _ _ => ?_) | with_reducible refine Calmly.gl_ff ?_ (fun _ _ => ?_)); (first | exact .move _ | exact .load _ _ | exact .fieldAddr _ _ _ (by kernel_rfl) | exact .assign _ | exact .binOp _ _ _ _ _ rfl | exact .indexAddr _ _ _ | exact .len _ _ (by kernel_rfl) | exact .field _ _ _ | exact .extract _ _ | exact .pick _ _ _ | exact .build _ _ | exact .slice _ _ _ _ _ | exact .unOp _ _ _ rfl | exact .index _ _ _ | exact .max _ _ _ rfl rfl | exact .min _ _ _ rfl rfl | exact .nilCheck _ _ rfl)) | with_reducible refine Calmly.gl_tf (fun _ _ => ?_) | with_reducible refine Calmly.gl_ft (fun _ _ => ?_)) | ((with_reducible refine Calmly.is_eff ?_); refine Calmly.mix_eff rfl (fun _ _ => ?_)) | ((with_reducible refine Calmly.is_gf ?_); refine Calmly.mix_gf rfl rfl rfl ?_; first | with_reducible refine Calmly.gf_tt (fun _ _ => ?_) | with_reducible refine Calmly.gf_ff (fun _ _ => ?_) | with_reducible refine Calmly.gf_tf (kept_of hk) (fun _ _ => ?_) | with_reducible refine Calmly.gf_ft (kept_of hk) (fun _ _ => ?_)) | ((with_reducible refine Calmly.is_tail ?_); first | refine Calmly.mix_tail_nil ?_ | refine Calmly.mix_tail rfl (fun _ _ => ?_)) | ((with_reducible refine Calmly.is_kept ?_); refine ⟨kept_of hk, ?_⟩) | (with_reducible refine Calmly.mix_alt ?_ ?_))
        refine Calmly.wp_region_mix 7 (.fl 0 <| .fl 1 <| .fl 2 <| .fl 3 <| .fl 4 <| .fl 5 <| .fl 6 <| .tail [7]) (by kernel_rfl) (by kernel_rfl) ?_
        have BD : Below w6.heap.size w6 w6.drew := (Below.refl _ _).drew
        replace ht2 := blk_keep ht2 BD
        replace ht3 := blk_keep ht3 BD
        replace hx6 := blk_keep hx6 BD
        replace hO6 := hO6.keep BD
        replace hB6 := hB6.trans (BD.mono hB6.size)
        generalize w6.drew = V6 at *
        have g0 := cell_block ht3 0
        have g1 := cell_block hx6 1
        have hk6 := Below.refl V6.heap.size V6
        have hq := HOK.out.q
        go_wp2_with (first | ((with_reducible refine Calmly.is_fl ?_); refine Calmly.mix_fl rfl ?_ (fun _ _ => ?_); (first | exact .move _ | exact .load _ _ | exact .fieldAddr _ _ _ (by kernel_rfl) | exact .assign _ | exact .binOp _ _ _ _ _ rfl | exact .indexAddr _ _ _ | exact .len _ _ (by kernel_rfl) | exact .field _ _ _ | exact .extract _ _ | exact .pick _ _ _ | exact .build _ _ | exact .slice _ _ _ _ _ | exact .unOp _ _ _ rfl | exact .index _ _ _ | exact .max _ _ _ rfl rfl | exact .min _ _ _ rfl rfl | exact .nilCheck _ _ rfl)) | ((with_reducible refine Calmly.is_gl ?_); refine Calmly.mix_gl rfl rfl rfl ?_; first | ((first | with_reducible refine Calmly.gl_tt ?_ (fun _ _ => ?_) | with_reducible refine Calmly.gl_ff ?_ (fun _ _ => ?_)); (first | exact .move _ | exact .load _ _ | exact .fieldAddr _ _ _ (by kernel_rfl) | exact .assign _ | exact .binOp _ _ _ _ _ rfl | exact .indexAddr _ _ _ | exact .len _ _ (by kernel_rfl) | exact .field _ _ _ | exact .extract _ _ | exact .pick _ _ _ | exact .build _ _ | exact .slice _ _ _ _ _ | exact .unOp _ _ _ rfl | exact .index _ _ _ | exact .max _ _ _ rfl rfl | exact .min _ _ _ rfl rfl | exact .nilCheck _ _ rfl)) | with_reducible refine Calmly.gl_tf (fun _ _ => ?_) | with_reducible refine Calmly.gl_ft (fun _ _ => ?_)) | ((with_reducible refine Calmly.is_eff ?_); refine Calmly.mix_eff rfl (fun _ _ => ?_)) | ((with_reducible refine Calmly.is_gf ?_); refine Calmly.mix_gf rfl rfl rfl ?_; first | with_reducible refine Calmly.gf_tt (fun _ _ => ?_) | with_reducible refine Calmly.gf_ff (fun _ _ => ?_) | with_reducible refine Calmly.gf_tf (kept_of hk) (fun _ _ => ?_) | with_reducible refine Calmly.gf_ft (kept_of hk) (fun _ _ => ?_)) | ((with_reducible refine Calmly.is_tail ?_); first | refine Calmly.mix_tail_nil ?_ | refine Calmly.mix_tail rfl (fun _ _ => ?_)) | ((with_reducible refine Calmly.is_kept ?_); refine ⟨kept_of hk, ?_⟩) | (with_reducible refine Calmly.mix_alt ?_ ?_))
        refine (timesI_any mb _ d1 (-a) _ _ _ hO6 (by have := HOK.out.s1; omega) (by omega) (by omega) (by omega)).mono ?_
        rintro e w7 ⟨rfl, hO7, hg7⟩
        have hI7 : FaI w n1 d1 n2 d2 n3 d3 a b c mb 1 w7 := ⟨hB6.trans (grown_below hg7 hB6.size (fun j e => by cases e; omega)), (hg7.block _ (blk_lt ht2) (by simp; omega)).trans ht2, (hg7.block _ (blk_lt ht3) (by simp; omega)).trans ht3, by simpa [fcP] using hO7⟩
        have HI7 := Lib.hid hI7
        clear hI7 hO7 hO6
        go_wp2_with (first | ((with_reducible refine Calmly.is_fl ?_); refine Calmly.mix_fl rfl ?_ (fun _ _ => ?_); (first | exact .move _ | exact .load _ _ | exact .fieldAddr _ _ _ (by kernel_rfl) | exact .assign _ | exact .binOp _ _ _ _ _ rfl | exact .indexAddr _ _ _ | exact .len _ _ (by kernel_rfl) | exact .field _ _ _ | exact .extract _ _ | exact .pick _ _ _ | exact .build _ _ | exact .slice _ _ _ _ _ | exact .unOp _ _ _ rfl | exact .index _ _ _ | exact .max _ _ _ rfl rfl | exact .min _ _ _ rfl rfl | exact .nilCheck _ _ rfl)) | ((with_reducible refine Calmly.is_gl ?_); refine Calmly.mix_gl rfl rfl rfl ?_; first | ((first | with_reducible refine Calmly.gl_tt ?_ (fun _ _ => ?_) | with_reducible refine Calmly.gl_ff ?_ (fun _ _ => ?_)); (first | exact .move _ | exact .load _ _ | exact .fieldAddr _ _ _ (by kernel_rfl) | exact .assign _ | exact .binOp _ _ _ _ _ rfl | exact .indexAddr _ _ _ | exact .len _ _ (by kernel_rfl) | exact .field _ _ _ | exact .extract _ _ | exact .pick _ _ _ | exact .build _ _ | exact .slice _ _ _ _ _ | exact .unOp _ _ _ rfl | exact .index _ _ _ | exact .max _ _ _ rfl rfl | exact .min _ _ _ rfl rfl | exact .nilCheck _ _ rfl)) | with_reducible refine Calmly.gl_tf (fun _ _ => ?_) | with_reducible refine Calmly.gl_ft (fun _ _ => ?_)) | ((with_reducible refine Calmly.is_eff ?_); refine Calmly.mix_eff rfl (fun _ _ => ?_)) | ((with_reducible refine Calmly.is_gf ?_); refine Calmly.mix_gf rfl rfl rfl ?_; first | with_reducible refine Calmly.gf_tt (fun _ _ => ?_) | with_reducible refine Calmly.gf_ff (fun _ _ => ?_) | with_reducible refine Calmly.gf_tf (kept_of hk) (fun _ _ => ?_) | with_reducible refine Calmly.gf_ft (kept_of hk) (fun _ _ => ?_)) | ((with_reducible refine Calmly.is_tail ?_); first | refine Calmly.mix_tail_nil ?_ | refine Calmly.mix_tail rfl (fun _ _ => ?_)) | ((with_reducible refine Calmly.is_kept ?_); refine ⟨kept_of hk, ?_⟩) | (with_reducible refine Calmly.mix_alt ?_ ?_))
        go_roundw
        case rel => exact ⟨1, by omega, by go_num, HI7.out⟩
        case measure => simp [intOf]
      · have hix := ixf1 n1 d1 n2 d2 n3 d3 wr
        have x0 := alloc_new wr (.cells #[.int .i64 n2, .int .i64 d2] 27)
        have BA := (Below.refl wr.heap.size wr).alloc (Nat.le_refl _) (.cells #[.int .i64 n2, .int .i64 d2] 27)
        have hi1 : (1 : Int) < 3 := by omega
        go_wp2_with fail
        refine Calmly.wp_region_mix 6 (.fl 0 <| .fl 1 <| .fl 2 <| .fl 3 <| .fl 4 <| .fl 5 <| .tail [6]) (by kernel_rfl) (by kernel_rfl) ?_
        have hI1 := (hI.keep BA).keep (Below.refl _ _).drew
        replace x0 := blk_keep x0 (Below.refl _ _).drew
        have hxs := blk_lt x0
        generalize World.drew _ = V5 at *
        have g0 := cell_block hI1.t3 1
        have g1 := cell_block x0 0
        have hk5 := Below.refl V5.heap.size V5
        go_wp2_with (first | ((with_reducible refine Calmly.is_fl ?_); refine Calmly.mix_fl rfl ?_ (fun _ _ => ?_); (first | exact .move _ | exact .load _ _ | exact .fieldAddr _ _ _ (by kernel_rfl) | exact .assign _ | exact .binOp _ _ _ _ _ rfl | exact .indexAddr _ _ _ | exact .len _ _ (by kernel_rfl) | exact .field _ _ _ | exact .extract _ _ | exact .pick _ _ _ | exact .build _ _ | exact .slice _ _ _ _ _ | exact .unOp _ _ _ rfl | exact .index _ _ _ | exact .max _ _ _ rfl rfl | exact .min _ _ _ rfl rfl | exact .nilCheck _ _ rfl)) | ((with_reducible refine Calmly.is_gl ?_); refine Calmly.mix_gl rfl rfl rfl ?_; first | ((first | with_reducible refine Calmly.gl_tt ?_ (fun _ _ => ?_) | with_reducible refine Calmly.gl_ff ?_ (fun _ _ => ?_)); (first | exact .move _ | exact .load _ _ | exact .fieldAddr _ _ _ (by kernel_rfl) | exact .assign _ | exact .binOp _ _ _ _ _ rfl | exact .indexAddr _ _ _ | exact .len _ _ (by kernel_rfl) | exact .field _ _ _ | exact .extract _ _ | exact .pick _ _ _ | exact .build _ _ | exact .slice _ _ _ _ _ | exact .unOp _ _ _ rfl | exact .index _ _ _ | exact .max _ _ _ rfl rfl | exact .min _ _ _ rfl rfl | exact .nilCheck _ _ rfl)) | with_reducible refine Calmly.gl_tf (fun _ _ => ?_) | with_reducible refine Calmly.gl_ft (fun _ _ => ?_)) | ((with_reducible refine Calmly.is_eff ?_); refine Calmly.mix_eff rfl (fun _ _ => ?_)) | ((with_reducible refine Calmly.is_gf ?_); refine Calmly.mix_gf rfl rfl rfl ?_; first | with_reducible refine Calmly.gf_tt (fun _ _ => ?_) | with_reducible refine Calmly.gf_ff (fun _ _ => ?_) | with_reducible refine Calmly.gf_tf (kept_of hk) (fun _ _ => ?_) | with_reducible refine Calmly.gf_ft (kept_of hk) (fun _ _ => ?_)) | ((with_reducible refine Calmly.is_tail ?_); first | refine Calmly.mix_tail_nil ?_ | refine Calmly.mix_tail rfl (fun _ _ => ?_)) | ((with_reducible refine Calmly.is_kept ?_); refine ⟨kept_of hk, ?_⟩) | (with_reducible refine Calmly.mix_alt ?_ ?_))
        refine (timesI_any mb _ n2 b _ _ _ hI1.own (by have := HOK.out.s2; omega) (by have := HOK.out.q; omega) (by omega) (by omega)).mono ?_
        rintro e w6 ⟨rfl, hO6, hg6⟩
        have ht2 := (hg6.block _ (blk_lt hI1.t2) (by simp; omega)).trans hI1.t2
        have ht3 := (hg6.block _ (blk_lt hI1.t3) (by simp; omega)).trans hI1.t3
        have hx6 := (hg6.block _ (blk_lt x0) (by simp; omega)).trans x0
        have hB6 := hI1.bel.trans (grown_below hg6 hI1.bel.size (fun j e => by cases e; omega))
        clear g0 g1
        go_wp2_with (first | ((with_reducible refine Calmly.is_fl ?_); refine Calmly.mix_fl rfl ?_ (fun _ _ => ?_); (first | exact .move _ | exact .load _ _ | exact .fieldAddr _ _ _ (by kernel_rfl) | exact .assign _ | exact .binOp _ _ _ _ _ rfl | exact .indexAddr _ _ _ | exact .len _ _ (by kernel_rfl) | exact .field _ _ _ | exact .extract _ _ | exact .pick _ _ _ | exact .build _ _ | exact .slice _ _ _ _ _ | exact .unOp _ _ _ rfl | exact .index _ _ _ | exact .max _ _ _ rfl rfl | exact .min _ _ _ rfl rfl | exact .nilCheck _ _ rfl)) | ((with_reducible refine Calmly.is_gl ?_); refine Calmly.mix_gl rfl rfl rfl ?_; first | ((first | with_reducible refine Calmly.gl_tt ?_ (fun _ _ => ?_) | with_reducible refine Calmly.gl_ff ?_ (fun _ _ => ?_)); (first | exact .move _ | exact .load _ _ | exact .fieldAddr _ _ _ (by kernel_rfl) | exact .assign _ | exact .binOp _ _ _ _ _ rfl | exact .indexAddr _ _ _ | exact .len _ _ (by kernel_rfl) | exact .field _ _ _ | exact .extract _ _ | exact .pick _ _ _ | exact .build _ _ | exact .slice _ _ _ _ _ | exact .unOp _ _ _ rfl | exact .index _ _ _ | exact .max _ _ _ rfl rfl | exact .min _ _ _ rfl rfl | exact .nilCheck _ _ rfl)) | with_reducible refine Calmly.gl_tf (fun _ _ => ?_) | with_reducible refine Calmly.gl_ft (fun _ _ => ?_)) | ((with_reducible refine Calmly.is_eff ?_); refine Calmly.mix_eff rfl (fun _ _ => ?_)) | ((with_reducible refine Calmly.is_gf ?_); refine Calmly.mix_gf rfl rfl rfl ?_; first | with_reducible refine Calmly.gf_tt (fun _ _ => ?_) | with_reducible refine Calmly.gf_ff (fun _ _ => ?_) | with_reducible refine Calmly.gf_tf (kept_of hk) (fun _ _ => ?_) | with_reducible refine Calmly.gf_ft (kept_of hk) (fun _ _ => ?_)) | ((with_reducible refine Calmly.is_tail ?_); first | refine Calmly.mix_tail_nil ?_ | refine Calmly.mix_tail rfl (fun _ _ => ?_)) | ((with_reducible refine Calmly.is_kept ?_); refine ⟨kept_of hk, ?_⟩) | (with_reducible refine Calmly.mix_alt ?_ ?_))
        refine Calmly.wp_region_mix 7 (.fl 0 <| .fl 1 <| .fl 2 <| .fl 3 <| .fl 4 <| .fl 5 <| .fl 6 <| .tail [7]) (by kernel_rfl) (by kernel_rfl) ?_
        have BD : Below w6.heap.size w6 w6.drew := (Below.refl _ _).drew
        replace ht2 := blk_keep ht2 BD
        replace ht3 := blk_keep ht3 BD
        replace hx6 := blk_keep hx6 BD
        replace hO6 := hO6.keep BD
        replace hB6 := hB6.trans (BD.mono hB6.size)
        generalize w6.drew = V6 at *
        have g0 := cell_block ht3 1
        have g1 := cell_block hx6 1
        have hk6 := Below.refl V6.heap.size V6
        have hq := HOK.out.q
        go_wp2_with (first | ((with_reducible refine Calmly.is_fl ?_); refine Calmly.mix_fl rfl ?_ (fun _ _ => ?_); (first | exact .move _ | exact .load _ _ | exact .fieldAddr _ _ _ (by kernel_rfl) | exact .assign _ | exact .binOp _ _ _ _ _ rfl | exact .indexAddr _ _ _ | exact .len _ _ (by kernel_rfl) | exact .field _ _ _ | exact .extract _ _ | exact .pick _ _ _ | exact .build _ _ | exact .slice _ _ _ _ _ | exact .unOp _ _ _ rfl | exact .index _ _ _ | exact .max _ _ _ rfl rfl | exact .min _ _ _ rfl rfl | exact .nilCheck _ _ rfl)) | ((with_reducible refine Calmly.is_gl ?_); refine Calmly.mix_gl rfl rfl rfl ?_; first | ((first | with_reducible refine Calmly.gl_tt ?_ (fun _ _ => ?_) | with_reducible refine Calmly.gl_ff ?_ (fun _ _ => ?_)); (first | exact .move _ | exact .load _ _ | exact .fieldAddr _ _ _ (by kernel_rfl) | exact .assign _ | exact .binOp _ _ _ _ _ rfl | exact .indexAddr _ _ _ | exact .len _ _ (by kernel_rfl) | exact .field _ _ _ | exact .extract _ _ | exact .pick _ _ _ | exact .build _ _ | exact .slice _ _ _ _ _ | exact .unOp _ _ _ rfl | exact .index _ _ _ | exact .max _ _ _ rfl rfl | exact .min _ _ _ rfl rfl | exact .nilCheck _ _ rfl)) | with_reducible refine Calmly.gl_tf (fun _ _ => ?_) | with_reducible refine Calmly.gl_ft (fun _ _ => ?_)) | ((with_reducible refine Calmly.is_eff ?_); refine Calmly.mix_eff rfl (fun _ _ => ?_)) | ((with_reducible refine Calmly.is_gf ?_); refine Calmly.mix_gf rfl rfl rfl ?_; first | with_reducible refine Calmly.gf_tt (fun _ _ => ?_) | with_reducible refine Calmly.gf_ff (fun _ _ => ?_) | with_reducible refine Calmly.gf_tf (kept_of hk) (fun _ _ => ?_) | with_reducible refine Calmly.gf_ft (kept_of hk) (fun _ _ => ?_)) | ((with_reducible refine Calmly.is_tail ?_); first | refine Calmly.mix_tail_nil ?_ | refine Calmly.mix_tail rfl (fun _ _ => ?_)) | ((with_reducible refine Calmly.is_kept ?_); refine ⟨kept_of hk, ?_⟩) | (with_reducible refine Calmly.mix_alt ?_ ?_))
        refine (timesI_any mb _ d2 (-b) _ _ _ hO6 (by have := HOK.out.s2; omega) (by omega) (by omega) (by omega)).mono ?_
        rintro e w7 ⟨rfl, hO7, hg7⟩
        have hI7 : FaI w n1 d1 n2 d2 n3 d3 a b c mb 2 w7 := ⟨hB6.trans (grown_below hg7 hB6.size (fun j e => by cases e; omega)), (hg7.block _ (blk_lt ht2) (by simp; omega)).trans ht2, (hg7.block _ (blk_lt ht3) (by simp; omega)).trans ht3, by simpa [fcP] using hO7⟩
        have HI7 := Lib.hid hI7
        clear hI7 hO7 hO6
        go_wp2_with (first | ((with_reducible refine Calmly.is_fl ?_); refine Calmly.mix_fl rfl ?_ (fun _ _ => ?_); (first | exact .move _ | exact .load _ _ | exact .fieldAddr _ _ _ (by kernel_rfl) | exact .assign _ | exact .binOp _ _ _ _ _ rfl | exact .indexAddr _ _ _ | exact .len _ _ (by kernel_rfl) | exact .field _ _ _ | exact .extract _ _ | exact .pick _ _ _ | exact .build _ _ | exact .slice _ _ _ _ _ | exact .unOp _ _ _ rfl | exact .index _ _ _ | exact .max _ _ _ rfl rfl | exact .min _ _ _ rfl rfl | exact .nilCheck _ _ rfl)) | ((with_reducible refine Calmly.is_gl ?_); refine Calmly.mix_gl rfl rfl rfl ?_; first | ((first | with_reducible refine Calmly.gl_tt ?_ (fun _ _ => ?_) | with_reducible refine Calmly.gl_ff ?_ (fun _ _ => ?_)); (first | exact .move _ | exact .load _ _ | exact .fieldAddr _ _ _ (by kernel_rfl) | exact .assign _ | exact .binOp _ _ _ _ _ rfl | exact .indexAddr _ _ _ | exact .len _ _ (by kernel_rfl) | exact .field _ _ _ | exact .extract _ _ | exact .pick _ _ _ | exact .build _ _ | exact .slice _ _ _ _ _ | exact .unOp _ _ _ rfl | exact .index _ _ _ | exact .max _ _ _ rfl rfl | exact .min _ _ _ rfl rfl | exact .nilCheck _ _ rfl)) | with_reducible refine Calmly.gl_tf (fun _ _ => ?_) | with_reducible refine Calmly.gl_ft (fun _ _ => ?_)) | ((with_reducible refine Calmly.is_eff ?_); refine Calmly.mix_eff rfl (fun _ _ => ?_)) | ((with_reducible refine Calmly.is_gf ?_); refine Calmly.mix_gf rfl rfl rfl ?_; first | with_reducible refine Calmly.gf_tt (fun _ _ => ?_) | with_reducible refine Calmly.gf_ff (fun _ _ => ?_) | with_reducible refine Calmly.gf_tf (kept_of hk) (fun _ _ => ?_) | with_reducible refine Calmly.gf_ft (kept_of hk) (fun _ _ => ?_)) | ((with_reducible refine Calmly.is_tail ?_); first | refine Calmly.mix_tail_nil ?_ | refine Calmly.mix_tail rfl (fun _ _ => ?_)) | ((with_reducible refine Calmly.is_kept ?_); refine ⟨kept_of hk, ?_⟩) | (with_reducible refine Calmly.mix_alt ?_ ?_))
        go_roundw
        case rel => exact ⟨2, by omega, by go_num, HI7.out⟩
        case measure => simp [intOf]
      · have hix := ixf2 n1 d1 n2 d2 n3 d3 wr
        have x0 := alloc_new wr (.cells #[.int .i64 n3, .int .i64 d3] 27)
        have BA := (Below.refl wr.heap.size wr).alloc (Nat.le_refl _) (.cells #[.int .i64 n3, .int .i64 d3] 27)
        have hi1 : (2 : Int) < 3 := by omega
        go_wp2_with fail
        refine Calmly.wp_region_mix 6 (.fl 0 <| .fl 1 <| .fl 2 <| .fl 3 <| .fl 4 <| .fl 5 <| .tail [6]) (by kernel_rfl) (by kernel_rfl) ?_
        have hI1 := (hI.keep BA).keep (Below.refl _ _).drew
        replace x0 := blk_keep x0 (Below.refl _ _).drew
        have hxs := blk_lt x0
        generalize World.drew _ = V5 at *
        have g0 := cell_block hI1.t3 2
        have g1 := cell_block x0 0
        have hk5 := Below.refl V5.heap.size V5
        go_wp2_with (first | ((with_reducible refine Calmly.is_fl ?_); refine Calmly.mix_fl rfl ?_ (fun _ _ => ?_); (first | exact .move _ | exact .load _ _ | exact .fieldAddr _ _ _ (by kernel_rfl) | exact .assign _ | exact .binOp _ _ _ _ _ rfl | exact .indexAddr _ _ _ | exact .len _ _ (by kernel_rfl) | exact .field _ _ _ | exact .extract _ _ | exact .pick _ _ _ | exact .build _ _ | exact .slice _ _ _ _ _ | exact .unOp _ _ _ rfl | exact .index _ _ _ | exact .max _ _ _ rfl rfl | exact .min _ _ _ rfl rfl | exact .nilCheck _ _ rfl)) | ((with_reducible refine Calmly.is_gl ?_); refine Calmly.mix_gl rfl rfl rfl ?_; first | ((first | with_reducible refine Calmly.gl_tt ?_ (fun _ _ => ?_) | with_reducible refine Calmly.gl_ff ?_ (fun _ _ => ?_)); (first | exact .move _ | exact .load _ _ | exact .fieldAddr _ _ _ (by kernel_rfl) | exact .assign _ | exact .binOp _ _ _ _ _ rfl | exact .indexAddr _ _ _ | exact .len _ _ (by kernel_rfl) | exact .field _ _ _ | exact .extract _ _ | exact .pick _ _ _ | exact .build _ _ | exact .slice _ _ _ _ _ | exact .unOp _ _ _ rfl | exact .index _ _ _ | exact .max _ _ _ rfl rfl | exact .min _ _ _ rfl rfl | exact .nilCheck _ _ rfl)) | with_reducible refine Calmly.gl_tf (fun _ _ => ?_) | with_reducible refine Calmly.gl_ft (fun _ _ => ?_)) | ((with_reducible refine Calmly.is_eff ?_); refine Calmly.mix_eff rfl (fun _ _ => ?_)) | ((with_reducible refine Calmly.is_gf ?_); refine Calmly.mix_gf rfl rfl rfl ?_; first | with_reducible refine Calmly.gf_tt (fun _ _ => ?_) | with_reducible refine Calmly.gf_ff (fun _ _ => ?_) | with_reducible refine Calmly.gf_tf (kept_of hk) (fun _ _ => ?_) | with_reducible refine Calmly.gf_ft (kept_of hk) (fun _ _ => ?_)) | ((with_reducible refine Calmly.is_tail ?_); first | refine Calmly.mix_tail_nil ?_ | refine Calmly.mix_tail rfl (fun _ _ => ?_)) | ((with_reducible refine Calmly.is_kept ?_); refine ⟨kept_of hk, ?_⟩) | (with_reducible refine Calmly.mix_alt ?_ ?_))
        refine (timesI_any mb _ n3 c _ _ _ hI1.own (by have := HOK.out.s3; omega) (by have := HOK.out.q; omega) (by omega) (by omega)).mono ?_
        rintro e w6 ⟨rfl, hO6, hg6⟩
        have ht2 := (hg6.block _ (blk_lt hI1.t2) (by simp; omega)).trans hI1.t2
        have ht3 := (hg6.block _ (blk_lt hI1.t3) (by simp; omega)).trans hI1.t3
        have hx6 := (hg6.block _ (blk_lt x0) (by simp; omega)).trans x0
        have hB6 := hI1.bel.trans (grown_below hg6 hI1.bel.size (fun j e => by cases e; omega))
        clear g0 g1
        go_wp2_with (first | ((with_reducible refine Calmly.is_fl ?_); refine Calmly.mix_fl rfl ?_ (fun _ _ => ?_); (first | exact .move _ | exact .load _ _ | exact .fieldAddr _ _ _ (by kernel_rfl) | exact .assign _ | exact .binOp _ _ _ _ _ rfl | exact .indexAddr _ _ _ | exact .len _ _ (by kernel_rfl) | exact .field _ _ _ | exact .extract _ _ | exact .pick _ _ _ | exact .build _ _ | exact .slice _ _ _ _ _ | exact .unOp _ _ _ rfl | exact .index _ _ _ | exact .max _ _ _ rfl rfl | exact .min _ _ _ rfl rfl | exact .nilCheck _ _ rfl)) | ((with_reducible refine Calmly.is_gl ?_); refine Calmly.mix_gl rfl rfl rfl ?_; first | ((first | with_reducible refine Calmly.gl_tt ?_ (fun _ _ => ?_) | with_reducible refine Calmly.gl_ff ?_ (fun _ _ => ?_)); (first | exact .move _ | exact .load _ _ | exact .fieldAddr _ _ _ (by kernel_rfl) | exact .assign _ | exact .binOp _ _ _ _ _ rfl | exact .indexAddr _ _ _ | exact .len _ _ (by kernel_rfl) | exact .field _ _ _ | exact .extract _ _ | exact .pick _ _ _ | exact .build _ _ | exact .slice _ _ _ _ _ | exact .unOp _ _ _ rfl | exact .index _ _ _ | exact .max _ _ _ rfl rfl | exact .min _ _ _ rfl rfl | exact .nilCheck _ _ rfl)) | with_reducible refine Calmly.gl_tf (fun _ _ => ?_) | with_reducible refine Calmly.gl_ft (fun _ _ => ?_)) | ((with_reducible refine Calmly.is_eff ?_); refine Calmly.mix_eff rfl (fun _ _ => ?_)) | ((with_reducible refine Calmly.is_gf ?_); refine Calmly.mix_gf rfl rfl rfl ?_; first | with_reducible refine Calmly.gf_tt (fun _ _ => ?_) | with_reducible refine Calmly.gf_ff (fun _ _ => ?_) | with_reducible refine Calmly.gf_tf (kept_of hk) (fun _ _ => ?_) | with_reducible refine Calmly.gf_ft (kept_of hk) (fun _ _ => ?_)) | ((with_reducible refine Calmly.is_tail ?_); first | refine Calmly.mix_tail_nil ?_ | refine Calmly.mix_tail rfl (fun _ _ => ?_)) | ((with_reducible refine Calmly.is_kept ?_); refine ⟨kept_of hk, ?_⟩) | (with_reducible refine Calmly.mix_alt ?_ ?_))
        refine Calmly.wp_region_mix 7 (.fl 0 <| .fl 1 <| .fl 2 <| .fl 3 <| .fl 4 <| .fl 5 <| .fl 6 <| .tail [7]) (by kernel_rfl) (by kernel_rfl) ?_
        have BD : Below w6.heap.size w6 w6.drew := (Below.refl _ _).drew
        replace ht2 := blk_keep ht2 BD
        replace ht3 := blk_keep ht3 BD
        replace hx6 := blk_keep hx6 BD
        replace hO6 := hO6.keep BD
        replace hB6 := hB6.trans (BD.mono hB6.size)
        generalize w6.drew = V6 at *
        have g0 := cell_block ht3 2
        have g1 := cell_block hx6 1
        have hk6 := Below.refl V6.heap.size V6
        have hq := HOK.out.q
        go_wp2_with (first | ((with_reducible refine Calmly.is_fl ?_); refine Calmly.mix_fl rfl ?_ (fun _ _ => ?_); (first | exact .move _ | exact .load _ _ | exact .fieldAddr _ _ _ (by kernel_rfl) | exact .assign _ | exact .binOp _ _ _ _ _ rfl | exact .indexAddr _ _ _ | exact .len _ _ (by kernel_rfl) | exact .field _ _ _ | exact .extract _ _ | exact .pick _ _ _ | exact .build _ _ | exact .slice _ _ _ _ _ | exact .unOp _ _ _ rfl | exact .index _ _ _ | exact .max _ _ _ rfl rfl | exact .min _ _ _ rfl rfl | exact .nilCheck _ _ rfl)) | ((with_reducible refine Calmly.is_gl ?_); refine Calmly.mix_gl rfl rfl rfl ?_; first | ((first | with_reducible refine Calmly.gl_tt ?_ (fun _ _ => ?_) | with_reducible refine Calmly.gl_ff ?_ (fun _ _ => ?_)); (first | exact .move _ | exact .load _ _ | exact .fieldAddr _ _ _ (by kernel_rfl) | exact .assign _ | exact .binOp _ _ _ _ _ rfl | exact .indexAddr _ _ _ | exact .len _ _ (by kernel_rfl) | exact .field _ _ _ | exact .extract _ _ | exact .pick _ _ _ | exact .build _ _ | exact .slice _ _ _ _ _ | exact .unOp _ _ _ rfl | exact .index _ _ _ | exact .max _ _ _ rfl rfl | exact .min _ _ _ rfl rfl | exact .nilCheck _ _ rfl)) | with_reducible refine Calmly.gl_tf (fun _ _ => ?_) | with_reducible refine Calmly.gl_ft (fun _ _ => ?_)) | ((with_reducible refine Calmly.is_eff ?_); refine Calmly.mix_eff rfl (fun _ _ => ?_)) | ((with_reducible refine Calmly.is_gf ?_); refine Calmly.mix_gf rfl rfl rfl ?_; first | with_reducible refine Calmly.gf_tt (fun _ _ => ?_) | with_reducible refine Calmly.gf_ff (fun _ _ => ?_) | with_reducible refine Calmly.gf_tf (kept_of hk) (fun _ _ => ?_) | with_reducible refine Calmly.gf_ft (kept_of hk) (fun _ _ => ?_)) | ((with_reducible refine Calmly.is_tail ?_); first | refine Calmly.mix_tail_nil ?_ | refine Calmly.mix_tail rfl (fun _ _ => ?_)) | ((with_reducible refine Calmly.is_kept ?_); refine ⟨kept_of hk, ?_⟩) | (with_reducible refine Calmly.mix_alt ?_ ?_))
        refine (timesI_any mb _ d3 (-c) _ _ _ hO6 (by have := HOK.out.s3; omega) (by omega) (by omega) (by omega)).mono ?_
        rintro e w7 ⟨rfl, hO7, hg7⟩
        have hI7 : FaI w n1 d1 n2 d2 n3 d3 a b c mb 3 w7 := ⟨hB6.trans (grown_below hg7 hB6.size (fun j e => by cases e; omega)), (hg7.block _ (blk_lt ht2) (by simp; omega)).trans ht2, (hg7.block _ (blk_lt ht3) (by simp; omega)).trans ht3, by simpa [fcP] using hO7⟩
        have HI7 := Lib.hid hI7
        clear hI7 hO7 hO6
        go_wp2_with (first | ((with_reducible refine Calmly.is_fl ?_); refine Calmly.mix_fl rfl ?_ (fun _ _ => ?_); (first | exact .move _ | exact .load _ _ | exact .fieldAddr _ _ _ (by kernel_rfl) | exact .assign _ | exact .binOp _ _ _ _ _ rfl | exact .indexAddr _ _ _ | exact .len _ _ (by kernel_rfl) | exact .field _ _ _ | exact .extract _ _ | exact .pick _ _ _ | exact .build _ _ | exact .slice _ _ _ _ _ | exact .unOp _ _ _ rfl | exact .index _ _ _ | exact .max _ _ _ rfl rfl | exact .min _ _ _ rfl rfl | exact .nilCheck _ _ rfl)) | ((with_reducible refine Calmly.is_gl ?_); refine Calmly.mix_gl rfl rfl rfl ?_; first | ((first | with_reducible refine Calmly.gl_tt ?_ (fun _ _ => ?_) | with_reducible refine Calmly.gl_ff ?_ (fun _ _ => ?_)); (first | exact .move _ | exact .load _ _ | exact .fieldAddr _ _ _ (by kernel_rfl) | exact .assign _ | exact .binOp _ _ _ _ _ rfl | exact .indexAddr _ _ _ | exact .len _ _ (by kernel_rfl) | exact .field _ _ _ | exact .extract _ _ | exact .pick _ _ _ | exact .build _ _ | exact .slice _ _ _ _ _ | exact .unOp _ _ _ rfl | exact .index _ _ _ | exact .max _ _ _ rfl rfl | exact .min _ _ _ rfl rfl | exact .nilCheck _ _ rfl)) | with_reducible refine Calmly.gl_tf (fun _ _ => ?_) | with_reducible refine Calmly.gl_ft (fun _ _ => ?_)) | ((with_reducible refine Calmly.is_eff ?_); refine Calmly.mix_eff rfl (fun _ _ => ?_)) | ((with_reducible refine Calmly.is_gf ?_); refine Calmly.mix_gf rfl rfl rfl ?_; first | with_reducible refine Calmly.gf_tt (fun _ _ => ?_) | with_reducible refine Calmly.gf_ff (fun _ _ => ?_) | with_reducible refine Calmly.gf_tf (kept_of hk) (fun _ _ => ?_) | with_reducible refine Calmly.gf_ft (kept_of hk) (fun _ _ => ?_)) | ((with_reducible refine Calmly.is_tail ?_); first | refine Calmly.mix_tail_nil ?_ | refine Calmly.mix_tail rfl (fun _ _ => ?_)) | ((with_reducible refine Calmly.is_kept ?_); refine ⟨kept_of hk, ?_⟩) | (with_reducible refine Calmly.mix_alt ?_ ?_))
        go_roundw
        case rel => exact ⟨3, by omega, by go_num, HI7.out⟩
        case measure => simp [intOf]
      · have hO := hI.own
        have hO2 : OwQ wr mb 180 720 V := by rw [← HV.out]; exact hO
        have hB := hI.bel
        clear hI hO
        go_wp2_with fail
        refine (frac_any mb 180 720 V _ hO2 (by omega)).mono ?_
        rintro e w8 ⟨rfl, hs8⟩
        have hO8 := hO2.keep hs8
        have hB8 := hB.trans (hs8.mono hB.size)
        have BF := (Below.refl w8.heap.size w8).alloc (Nat.le_refl _) (.cells #[.int .i64 (fcN V), .int .i64 (fcD V)] 27)
        go_wp2_with fail
        refine (dUnless_any _ 8 _).mono ?_
        rintro e w9 ⟨rfl, rfl⟩
        go_wp2_with fail
        have he : E = unlessE (fcOk V) 8 := by rw [HE.out, if_pos HZ.out]
        refine bodyPost_ret (v := .tuple #[.map (some mb), .int .i64 (unlessE (fcOk V) 8)]) (by simp [results, Tryz.results58, go_sem]) rfl ⟨some mb, by rw [he], fun _ => ⟨mb, rfl, by omega, hO8.keep BF⟩, hB8.trans (BF.mono hB8.size)⟩
end Go.Proofs.YtaiikekgckjdeaaGreat

namespace Go.Proofs.YtaiikekgckjdeaaGreat
open Go.RowKit Go.Maps
open Calmly (Kept)
/-- The parts of a number, 0 behind an error. -/
def qN (E : Int) (v : Rat) : Int := if E = 0 then v.num else 0
def qD (E : Int) (v : Rat) : Int := if E = 0 then (v.den : Int) else 0
theorem facE_ok {n1 d1 n2 d2 n3 d3 a b c : Int} (h : facE n1 d1 n2 d2 n3 d3 a b c = 0) : facH n1 d1 n2 d2 n3 d3 a b c = 0 ∧ fcOk (facV n1 d1 n2 d2 n3 d3 a b c) = true := by
  unfold facE at h
  split at h
  · rename_i h0
    refine ⟨h0, ?_⟩
    cases hf : fcOk (facV n1 d1 n2 d2 n3 d3 a b c)
    · rw [hf] at h; cases h
    · rfl
  · rename_i h0
    exact absurd h h0
set_option maxRecDepth 100000 in
set_option maxHeartbeats 2000000 in
theorem FactorOf_any (n1 d1 n2 d2 n3 d3 a b c : Int) (w : World) (h1 : F64 n1 d1) (h2 : F64 n2 d2) (h3 : F64 n3 d3) :
    Calls Tryz.prog 17 #[.agg #[.int .i64 n1, .int .i64 d1, .int .i64 n2, .int .i64 d2, .int .i64 n3, .int .i64 d3], .agg #[.int .i64 a, .int .i64 b, .int .i64 c]] w fun e w' => e = .returned (.tuple #[.agg #[.int .i64 (qN (facE n1 d1 n2 d2 n3 d3 a b c) (facV n1 d1 n2 d2 n3 d3 a b c)), .int .i64 (qD (facE n1 d1 n2 d2 n3 d3 a b c) (facV n1 d1 n2 d2 n3 d3 a b c))], .int .i64 (facE n1 d1 n2 d2 n3 d3 a b c)]) ∧ Below w.heap.size w w' := by
  have hok : facE n1 d1 n2 d2 n3 d3 a b c = 0 → fcOk (facV n1 d1 n2 d2 n3 d3 a b c) = true := fun h => (facE_ok h).2
  obtain ⟨E, hE⟩ : ∃ E, facE n1 d1 n2 d2 n3 d3 a b c = E := ⟨_, rfl⟩
  obtain ⟨V, hV⟩ : ∃ V, facV n1 d1 n2 d2 n3 d3 a b c = V := ⟨_, rfl⟩
  rw [hE, hV] at hok
  rw [hE, hV]
  have HE := Lib.hid hE
  have HV := Lib.hid hV
  have HOK := Lib.hid hok
  clear hE hV hok
  have y4 := alloc_new ((w.alloc (.cells #[.int .i64 n1, .int .i64 d1, .int .i64 n2, .int .i64 d2, .int .i64 n3, .int .i64 d3] 28)).alloc (.cells #[.int .i64 a, .int .i64 b, .int .i64 c] 53)) (.cells #[.int .i64 0, .int .i64 0] 27)
  have BW : Below w.heap.size w (((w.alloc (.cells #[.int .i64 n1, .int .i64 d1, .int .i64 n2, .int .i64 d2, .int .i64 n3, .int .i64 d3] 28)).alloc (.cells #[.int .i64 a, .int .i64 b, .int .i64 c] 53)).alloc (.cells #[.int .i64 0, .int .i64 0] 27)) := (((Below.refl _ _).alloc (Nat.le_refl _) _).alloc (by simp) _).alloc (by simp; omega) _
  simp only [World.size_alloc] at y4
  go_enter Tryz.func17, Tryz.ntmps17
  go_wp2_with fail
  generalize ((w.alloc (.cells #[.int .i64 n1, .int .i64 d1, .int .i64 n2, .int .i64 d2, .int .i64 n3, .int .i64 d3] 28)).alloc (.cells #[.int .i64 a, .int .i64 b, .int .i64 c] 53)).alloc (.cells #[.int .i64 0, .int .i64 0] 27) = W at *
  refine (factor_any n1 d1 n2 d2 n3 d3 a b c W h1 h2 h3).mono ?_
  rintro e w1 ⟨mp, rfl, hR⟩
  rw [HE.out, HV.out] at hR
  rw [HE.out]
  have hs1 := hR.bel
  replace y4 := blk_keep y4 hs1
  replace BW := BW.trans (hs1.mono BW.size)
  have g0 := cell_block y4 0
  have g1 := cell_block y4 1
  have g2 := frozen_block y4 0
  have g3 := frozen_block y4 1
  by_cases hz : E = 0
  case neg =>
    have b1 : (E != 0) = true := by simpa using hz
    have HZ := Lib.hid hz
    clear hz
    go_wp2_with fail
    have q0 := setBlk (setBlk y4 0 (.int .i64 0)) 1 (.int .i64 0)
    simp at q0
    have c0 := cell_block q0 0
    have c1 := cell_block q0 1
    have hw : w.heap.size ≤ w.heap.size + 1 + 1 := by omega
    refine bodyPost_ret (v := .tuple #[.agg #[.int .i64 0, .int .i64 0], .int .i64 E]) (by simp [results, Tryz.results17, go_sem, c0, c1]) rfl ⟨by rw [qN, qD, if_neg HZ.out, if_neg HZ.out], (BW.setCell (by exact hw) _).setCell (by exact hw) _⟩
  case pos =>
    obtain ⟨mb, rfl, hmb, hO⟩ := hR.own hz
    have b1 : (E != 0) = false := by rw [hz]; rfl
    have HZ := Lib.hid hz
    clear hz
    go_wp2_with fail
    refine (frac_any mb 180 720 V _ hO (by omega)).mono ?_
    rintro e w8 ⟨rfl, hs8⟩
    have e1 : fcN V = V.num := by rw [fcN, HOK.out HZ.out]; rfl
    have e2 : fcD V = (V.den : Int) := by rw [fcD, HOK.out HZ.out]; rfl
    rw [e1, e2]
    have E1 := Lib.hid e1
    have E2 := Lib.hid e2
    clear e1 e2
    obtain ⟨vn, hvn⟩ : ∃ x, V.num = x := ⟨_, rfl⟩
    obtain ⟨vd, hvd⟩ : ∃ x, (V.den : Int) = x := ⟨_, rfl⟩
    rw [hvn, hvd]
    have HVN := Lib.hid hvn
    have HVD := Lib.hid hvd
    clear hvn hvd
    replace y4 := blk_keep y4 hs8
    replace BW := BW.trans (hs8.mono BW.size)
    have BF := (Below.refl w8.heap.size w8).alloc (Nat.le_refl _) (.cells #[.int .i64 vn, .int .i64 vd] 27)
    replace y4 := blk_keep y4 BF
    replace BW := BW.trans (BF.mono BW.size)
    have g0 := cell_block y4 0
    have g1 := cell_block y4 1
    have g2 := frozen_block y4 0
    have g3 := frozen_block y4 1
    go_wp2_with fail
    have q0 := setBlk (setBlk y4 0 (.int .i64 vn)) 1 (.int .i64 vd)
    simp at q0
    have c0 := cell_block q0 0
    have c1 := cell_block q0 1
    have hw : w.heap.size ≤ w.heap.size + 1 + 1 := by omega
    refine bodyPost_ret (v := .tuple #[.agg #[.int .i64 vn, .int .i64 vd], .int .i64 0]) (by simp [results, Tryz.results17, go_sem, c0, c1]) rfl ⟨by rw [qN, qD, if_pos HZ.out, if_pos HZ.out, HVN.out, HVD.out, HZ.out], (BW.setCell (by exact hw) _).setCell (by exact hw) _⟩
end Go.Proofs.YtaiikekgckjdeaaGreat

namespace Go.Proofs.YtaiikekgckjdeaaGreat
open Go.RowKit Go.Maps
open Calmly (Kept)

/-! ### Plain -/
/-- A number with small parts, of any sign. -/
def smQ (v : Rat) : Bool := decide (-1000000000 ≤ v.num) && decide (v.num ≤ 1000000000) && decide (v.den ≤ 1000000000)
def valE (x y : Int) : Int := firstE [unlessE (isLow x y) 3, unlessE (szd x 1000000000 && decide (y ≤ 1000000000)) 2]
/-- The number of a value, scaled by a factor. -/
def scR (x y : Int) (V : Rat) (pw : Int) : Rat := (x : Rat) / (y : Rat) * V ^ pw
def scH (F x y : Int) : Int := firstE [F, unlessE (isLow x y) 3, unlessE (szd x 1000000000 && decide (y ≤ 1000000000)) 2]
def scE (F x y : Int) (R : Rat) : Int := if scH F x y = 0 then unlessE (smQ R) 8 else scH F x y
theorem scH_ok {F x y : Int} (h : scH F x y = 0) : F = 0 ∧ (0 < y ∧ Int.gcd x y = 1) ∧ (-1000000000 ≤ x ∧ x ≤ 1000000000) ∧ y ≤ 1000000000 := by
  unfold scH at h
  by_cases hF : F = 0
  · cases h1 : isLow x y
    · simp [hF, h1, firstE, unlessE] at h
    · cases h2 : (szd x 1000000000 && decide (y ≤ 1000000000))
      · simp [hF, h1, h2, firstE, unlessE] at h
      · rw [isLow, Bool.and_eq_true, decide_eq_true_eq, beq_iff_eq] at h1
        rw [Bool.and_eq_true, decide_eq_true_eq] at h2
        exact ⟨hF, ⟨h1.1, by exact_mod_cast h1.2⟩, szd_iff.1 h2.1, h2.2⟩
  · simp [firstE, hF] at h
theorem pow_pm {p : Rat} {c pw : Int} (h : pw = 1 ∨ pw = -1) : p ^ (c * pw) = (p ^ c) ^ pw := by
  rcases h with rfl | rfl
  · rw [Int.mul_one, Rat.zpow_one]
  · rw [show c * -1 = -c by omega, Rat.zpow_neg, Rat.zpow_neg, Rat.zpow_one]
theorem doneQ_len {D : DataW Unit} {M : Int} {l : List (Nat × Int)} {w : World} {b n : Nat} {R : Value → Option (DataW Unit × List MemPlace)} {P : Program} {k : TypeId} (hQ : QV D M l) (h : w.ownsMap P k R b n D) : l.length ≤ n := by
  obtain ⟨es, clock, _, _, hs, hD⟩ := h
  have h1 := hQ.1
  rw [h1] at hD
  have h2 : (l.map (ent (H := Unit))).length = ((es.toList.map (WideElems.rg P k R)).foldr DataW.insert []).length := by
    injection hD with h3
    rw [h3]
  rw [(WideShapes.sorted_perm _).length_eq] at h2
  simp at h2
  omega
/-- What lies between two rounds of the range. -/
structure ScI (w : World) (mb ob r : Nat) (D : DataW Unit) (l : List (Nat × Int)) (base : Rat) (pw : Int) (left : Lit → Bool) (cnt : Nat) (wr : World) : Prop where
  rg : wr.ranges Tryz.prog 3 (plainElem Tryz.prog 3) mb r 180 D left cnt
  own : ∃ v, OwQ wr ob (60 + (doneQ l left).length) (240 + 720 * ((doneQ l left).length : Int)) v ∧ v = base * valQ (doneQ l left) ^ pw
  grown : w.grownBy wr (some ob)
theorem scI_step {w : World} {mb ob r : Nat} {D : DataW Unit} {l : List (Nat × Int)} {base : Rat} {pw : Int} {left : Lit → Bool} {cnt1 p : Nat} {c : Int} {M : Int} (hQ : QV D M l) (hmem : (p, c) ∈ l) (hlx : left (.int .i64 (p : Int)) = true) (hpw : pw = 1 ∨ pw = -1)
    {w1 w2 wr : World} {v v2 : Rat} (hrg : w2.ranges Tryz.prog 3 (plainElem Tryz.prog 3) mb r 180 D (fun z => left z && !z.sameKey (.int .i64 (p : Int))) cnt1) (hv : v = base * valQ (doneQ l left) ^ pw) (ho : OwQ w2 ob (60 + ((doneQ l left).length + 1)) (240 + 720 * (((doneQ l left).length + 1 : Nat) : Int)) v2) (hv2 : v2 = v * (p : Rat) ^ (c * pw))
    (hg : w.grownBy wr (some ob)) (hg1 : wr.grownBy w1 (some r)) (hg2 : w1.grownBy w2 (some ob)) (hr : w.heap.size ≤ r) : ScI w mb ob r D l base pw (fun z => left z && !z.sameKey (.int .i64 (p : Int))) cnt1 w2 := by
  have hperm := doneQ_step hQ.2.1.1 hmem hlx
  have hlen := hperm.length_eq
  rw [List.length_cons] at hlen
  refine ⟨hrg, ⟨v2, by rw [hlen]; exact ho, ?_⟩, ((hg.andThen hg1 (fun j hj => by cases hj; exact .inl hr)).andThen hg2 (fun j hj => .inr hj))⟩
  rw [hv2, hv, valQ_perm hperm, valQ, rat_mul_zpow, pow_pm hpw]
  grind
theorem firstE_last {a b c : Int} (hc : c ≠ 0) : firstE [a, b, c] ≠ 0 := by
  show (if a = 0 then (if b = 0 then (if c = 0 then 0 else c) else b) else a) ≠ 0
  split
  · split
    · first | assumption | (rw [if_neg hc]; exact hc)
    · assumption
  · assumption
theorem smQ_pos {A : Rat} (h : 0 ≤ A.num) : smQ A = fcOk A := by
  unfold smQ fcOk
  rw [show decide (-1000000000 ≤ A.num) = true by rw [decide_eq_true_eq]; omega, Bool.true_and]
theorem smQ_neg {A : Rat} (h : 0 ≤ A.num) : smQ (-A) = fcOk A := by
  unfold smQ fcOk
  rw [Rat.neg_num, Rat.neg_den, show decide (-A.num ≤ 1000000000) = true by rw [decide_eq_true_eq]; omega, Bool.and_true]
  congr 1
  rw [decide_eq_decide]
  omega
theorem scR_pos {x X y : Int} {V v : Rat} {pw : Int} (hx : X = x) (hv : v = 1 * (X : Rat) ^ (1 : Int) * (y : Rat) ^ (-1 : Int) * V ^ pw) : scR x y V pw = v := by
  subst hx
  rw [hv, scR, Rat.zpow_one, Rat.zpow_neg, Rat.zpow_one, Rat.div_def]
  grind
theorem scR_neg {x X y : Int} {V v : Rat} {pw : Int} (hx : X = -x) (hv : v = 1 * (X : Rat) ^ (1 : Int) * (y : Rat) ^ (-1 : Int) * V ^ pw) : scR x y V pw = -v := by
  obtain rfl : x = -X := by omega
  rw [hv, scR, Rat.zpow_one, Rat.zpow_neg, Rat.zpow_one, Rat.div_def, Rat.intCast_neg]
  grind
end Go.Proofs.YtaiikekgckjdeaaGreat

namespace Go.Proofs.YtaiikekgckjdeaaGreat
open Go.RowKit Go.Maps
open Calmly (Kept)
end Go.Proofs.YtaiikekgckjdeaaGreat
