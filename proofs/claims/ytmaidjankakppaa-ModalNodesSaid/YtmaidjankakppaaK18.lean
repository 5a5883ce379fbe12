/- The law ModalStiffer, walked. -/
import Derived.Test.YtmaidjankakppaaK17
namespace Go.Proofs.Ytmaidjankakppaa
open Go.RowKit
open Calmly (Kept)

theorem box3 {w W w1 : World} {o o' o'' : Obj} (h : Below W.heap.size W w1) (hW : W.heap = (((w.alloc o).alloc o').alloc o'').heap := by rfl) : w1.heap[w.heap.size]? = some o ∧ w1.heap[w.heap.size + 1]? = some o' ∧ w1.heap[w.heap.size + 1 + 1]? = some o'' := by
  have h0 : Below ((w.alloc o).alloc o').heap.size ((w.alloc o).alloc o') (((w.alloc o).alloc o').alloc o'') := (Below.refl _ _).alloc (Nat.le_refl _) _
  obtain ⟨e1, e2⟩ := box2 (w := w) (o := o) (o' := o') h0
  have e3 := alloc_new ((w.alloc o).alloc o') o''
  simp only [World.size_alloc] at e3
  refine ⟨?_, ?_, ?_⟩
  · rw [h.block _ (by rw [hW]; simp <;> omega), hW]; exact e1
  · rw [h.block _ (by rw [hW]; simp), hW]; exact e2
  · rw [h.block _ (by rw [hW]; simp), hW]; exact e3

theorem kept_allocB {W w : World} {o : Obj} {G : Prop} (h : Below W.heap.size W w) (k : Below w.heap.size w (w.alloc o) → Below W.heap.size W (w.alloc o) → (w.alloc o).heap[w.heap.size]? = some o → G) : Kept W (w.alloc o) ∧ G :=
  ⟨kept_of (h.alloc h.size o), k ((Below.refl _ _).alloc (Nat.le_refl _) _) (h.alloc h.size o) (alloc_new w o)⟩

theorem OwI.other {w : World} {B g n c : Nat} {xs : List Int} (h : OwI w B (some ⟨g, 0, none⟩) n c xs) {r o : Nat} (hr : r ≠ g) (v : Value) : OwI (w.setCell ⟨r, o, none⟩ v) B (some ⟨g, 0, none⟩) n c xs := by
  obtain ⟨h1, h2⟩ := h
  refine ⟨h1, ?_⟩
  rcases h2 with ⟨h2, _⟩ | ⟨g', cap, cur, hv, hg, hh, r'⟩
  · cases h2
  · cases hv
    refine .inr ⟨_, _, _, rfl, hg, ?_, r'⟩
    rw [Below.heap_setCell _ _ _ _ (by show g ≠ r; omega)]
    exact hh
theorem checkF_setm {ms ks : List Int} (he : (checkF ms ks).2 = 0) (i : Nat) (x : Int) (h1 : 1 ≤ x) (h2 : x ≤ 10) : (checkF (ms.set i x) ks).2 = 0 := by
  obtain ⟨q1, q2, q3, q4, q5⟩ := checkF_ok he
  have hl : (ms.set i x).length = ms.length := by simp
  rw [checkF_rest (by omega) (by omega)]
  have := badF_ok (ms.set i x) ks 0 (by omega) (fun j hj => by
    rw [List.getElem?_set]
    split
    · split
      · exact ⟨h1, h2⟩
      · omega
    · exact q4 j (by omega)) (fun j hj => q5 j (by omega)) (by omega)
  simp only [List.drop_zero] at this
  rw [this]
theorem stiff_facts {ms ks : List Int} (he : (checkF ms ks).2 = 0) (i mode : Nat) (hi : i < ms.length) (hm : mode < ms.length) {K1 M1 : Int} (hK : ks[i]?.getD 0 ≤ K1) (hK2 : K1 ≤ 20) (hM : ms[i]?.getD 0 ≤ M1) (hM2 : M1 ≤ 10) {x y : Int} (hs : squareE x y = 0) :
    (checkF ms (ks.set i K1)).2 = 0 ∧ (checkF (ms.set i M1) ks).2 = 0 ∧ belowF ms (ks.set i K1) x y ≤ belowF ms ks x y ∧ belowF ms ks x y ≤ belowF (ms.set i M1) ks x y ∧
    (encF (ms.set i M1) ks mode 10).1 ≤ (encF ms ks mode 10).1 ∧ (encF (ms.set i M1) ks mode 10).2 ≤ (encF ms ks mode 10).2 ∧ (encF ms ks mode 10).1 ≤ (encF ms (ks.set i K1) mode 10).1 ∧ (encF ms ks mode 10).2 ≤ (encF ms (ks.set i K1) mode 10).2 := by
  have fr := fr_of he
  have h1 := fr.m i hi
  have h2 := fr.k i hi
  have c1 := checkF_set he i K1 (by omega) hK2
  have c2 := checkF_setm he i M1 (by omega) hM2
  have f1 := fr_of c1
  have f2 := fr_of c2
  have hl : (ms.set i M1).length = ms.length := by simp
  obtain ⟨_, hy, _⟩ := squareE_ok hs
  have e1 : ks.set i K1 = ks.set i (ks[i]?.getD 0 + (K1 - ks[i]?.getD 0)) := by congr 1; omega
  have sp : ∀ {num den : Int}, 0 < den → Le den den (phs ms (ks.set i K1) num den ms.length) (phs ms ks num den ms.length) := fun hd => by
    rw [e1]
    exact spring_le fr i hi (by omega) hd
  have hmm : ∀ j, j < ms.length → ms[j]?.getD 0 ≤ (ms.set i M1)[j]?.getD 0 := fun j hj => by
    rw [List.getElem?_set]
    split
    · rename_i h
      subst h
      exact hM
    · exact Int.le_refl _
  refine ⟨c1, c2, ?_, ?_, ?_⟩
  · rw [below_phs x y hy fr.kp, below_phs x y hy f1.kp]
    exact (sp hy).count
  · rcases Int.lt_or_le x 0 with h | h
    · rw [(below_zero fr hy (by omega)).1, (below_zero f2 hy (by omega)).1]
      exact Int.le_refl _
    · rw [below_phs x y hy fr.kp, below_phs x y hy f2.kp, hl]
      exact (mass_le fr hmm h hy).count
  · obtain ⟨a1, a2⟩ := enc_le fr f1 rfl (mode := mode) (den := 10) (by decide) (by decide) (by omega) (by omega) (fun num _ => sp (by decide))
    obtain ⟨b1, b2⟩ := enc_le f2 fr hl.symm (mode := mode) (den := 10) (by decide) (by decide) (by omega) (by omega) (fun num hn => by rw [hl]; exact mass_le fr hmm hn (by decide))
    exact ⟨b1, b2, a1, a2⟩

/-- Two copies of a frame, each in its variable. -/
def Four (w5 : World) (b9 b10 ga1 gb1 ga2 gb2 c1' d1' c2' d2' n m : Nat) (ms ks : List Int) (v : World) : Prop :=
  Below w5.heap.size w5 v ∧ v.heap[b9]? = some (.cells #[.slice (some ⟨ga1, 0, none⟩) n c1', .slice (some ⟨gb1, 0, none⟩) m d1'] 24) ∧ v.heap[b10]? = some (.cells #[.slice (some ⟨ga2, 0, none⟩) n c2', .slice (some ⟨gb2, 0, none⟩) m d2'] 24) ∧
  OwI v w5.heap.size (some ⟨ga1, 0, none⟩) n c1' ms ∧ OwI v w5.heap.size (some ⟨gb1, 0, none⟩) m d1' ks ∧ OwI v w5.heap.size (some ⟨ga2, 0, none⟩) n c2' ms ∧ OwI v w5.heap.size (some ⟨gb2, 0, none⟩) m d2' ks ∧
  gb1 ≠ ga1 ∧ gb1 ≠ ga2 ∧ gb1 ≠ gb2 ∧ gb1 ≠ b9 ∧ gb1 ≠ b10 ∧ ga2 ≠ ga1 ∧ ga2 ≠ gb2 ∧ ga2 ≠ b9 ∧ ga2 ≠ b10 ∧ w5.heap.size ≤ b9 ∧ w5.heap.size ≤ b10
theorem four {w5 w' : World} {b9 b10 ga1 gb1 ga2 gb2 c1' d1' c2' d2' n m B1 B2 B3 B4 : Nat} {ms ks : List Int} {x0 x1 y0 y1 : Value} (hk : Below w5.heap.size w5 w')
    (p9 : w'.heap[b9]? = some (.cells #[x0, x1] 24)) (p10 : w'.heap[b10]? = some (.cells #[y0, y1] 24))
    (oA1 : OwI w' B1 (some ⟨ga1, 0, none⟩) n c1' ms) (oB1 : OwI w' B2 (some ⟨gb1, 0, none⟩) m d1' ks) (oA2 : OwI w' B3 (some ⟨ga2, 0, none⟩) n c2' ms) (oB2 : OwI w' B4 (some ⟨gb2, 0, none⟩) m d2' ks)
    (h1 : w5.heap.size ≤ B1 ∧ w5.heap.size ≤ B2 ∧ w5.heap.size ≤ B3 ∧ w5.heap.size ≤ B4) (h2 : gb1 ≠ ga1 ∧ gb1 ≠ ga2) (h3 : gb1 ≠ gb2) (h4 : gb1 ≠ b9 ∧ gb1 ≠ b10) (h5 : ga2 ≠ ga1) (h6 : ga2 ≠ gb2) (h7 : ga2 ≠ b9) (h8 : ga2 ≠ b10) (h9 : w5.heap.size ≤ b9 ∧ w5.heap.size ≤ b10) (h10 : b9 ≠ b10) (h11 : ga1 ≠ b9 ∧ ga1 ≠ b10) (h12 : gb2 ≠ b9 ∧ gb2 ≠ b10) :
    Four w5 b9 b10 ga1 gb1 ga2 gb2 c1' d1' c2' d2' n m ms ks ((((w'.setCell ⟨b9, 0, none⟩ (.slice (some ⟨ga1, 0, none⟩) n c1')).setCell ⟨b9, 1, none⟩ (.slice (some ⟨gb1, 0, none⟩) m d1')).setCell ⟨b10, 0, none⟩ (.slice (some ⟨ga2, 0, none⟩) n c2')).setCell ⟨b10, 1, none⟩ (.slice (some ⟨gb2, 0, none⟩) m d2')) := by
  have four : ∀ {B g k c : Nat} {xs : List Int}, OwI w' B (some ⟨g, 0, none⟩) k c xs → w5.heap.size ≤ B → b9 ≠ g → b10 ≠ g → OwI ((((w'.setCell ⟨b9, 0, none⟩ (.slice (some ⟨ga1, 0, none⟩) n c1')).setCell ⟨b9, 1, none⟩ (.slice (some ⟨gb1, 0, none⟩) m d1')).setCell ⟨b10, 0, none⟩ (.slice (some ⟨ga2, 0, none⟩) n c2')).setCell ⟨b10, 1, none⟩ (.slice (some ⟨gb2, 0, none⟩) m d2')) w5.heap.size (some ⟨g, 0, none⟩) k c xs :=
    fun h hB e1 e2 => ((((h.other e1 _).other e1 _).other e2 _).other e2 _).weak hB
  refine ⟨(((hk.setCell h9.1 _).setCell h9.1 _).setCell h9.2 _).setCell h9.2 _, blk_other' (blk_other' (blk_setAt (blk_setAt p9 0 _) 1 _) h10 _ _) h10 _ _, blk_setAt (blk_setAt (blk_other' (blk_other' p10 (Ne.symm h10) _ _) (Ne.symm h10) _ _) 0 _) 1 _, four oA1 h1.1 ?_ ?_, four oB1 h1.2.1 ?_ ?_, four oA2 h1.2.2.1 ?_ ?_, four oB2 h1.2.2.2 ?_ ?_, h2.1, h2.2, h3, h4.1, h4.2, h5, h6, h7, h8, h9.1, h9.2⟩ <;> omega

set_option maxRecDepth 100000 in
set_option maxHeartbeats 8000000 in
theorem ModalStiffer_walk (a b : Option Addr) (n c m d : Nat) (ms ks : List Int) (x y p q : Int) (w : World) (h1 : SI w a n c ms) (h2 : SI w b m d ks) (hx1 : -9223372036854775808 ≤ x) (hx2 : x ≤ 9223372036854775807) (hy2 : y ≤ 9223372036854775807)
    (hp1 : -9223372036854775808 ≤ p) (hp2 : p ≤ 9223372036854775807) (hq1 : -9223372036854775808 ≤ q) (hq2 : q ≤ 9223372036854775807) :
    Calls Try.prog 5 #[.agg #[.slice a n c, .slice b m d], .agg #[.int .i64 x, .int .i64 y], .agg #[.int .i64 p, .int .i64 q]] w fun e w' => e = .returned (.bool true) ∧ Below w.heap.size w w' := by
  have m1 := h1.max
  have c1 := h1.cap
  have hA : ∀ (A : World) (o : Obj), Below A.heap.size A (A.alloc o) := fun A o => (Below.refl _ _).alloc (Nat.le_refl _) _
  have hb3 : Below w.heap.size w (((w.alloc (.cells #[.slice a n c, .slice b m d] 24)).alloc (.cells #[.int .i64 x, .int .i64 y] 34)).alloc (.cells #[.int .i64 p, .int .i64 q] 58)) := (((Below.refl _ _).alloc (Nat.le_refl _) _).alloc (by simp) _).alloc (by simp; omega) _
  obtain ⟨C, hC⟩ : ∃ C, (checkF ms ks).2 = C := ⟨_, rfl⟩
  obtain ⟨D, hD⟩ : ∃ D, squareE x y = D := ⟨_, rfl⟩
  have HC := Lib.hid hC
  have HD := Lib.hid hD
  clear hC hD
  go_enter Try.func5, Try.ntmps5
  go_wp2_with fail
  refine (awake_any _).mono ?_
  rintro e w1 ⟨rfl, hb1⟩
  obtain ⟨x1, x2, x3⟩ := box3 (w := w) (o := .cells #[.slice a n c, .slice b m d] 24) (o' := .cells #[.int .i64 x, .int .i64 y] 34) (o'' := .cells #[.int .i64 p, .int .i64 q] 58) hb1
  have B1 := hb3.trans (hb1.mono hb3.size)
  have s3 := blk_lt x3
  have f0 : w1.cell? ⟨w.heap.size, 0, none⟩ = some (.slice a n c) := cell_block x1 0
  have f1 : w1.cell? ⟨w.heap.size, 1, none⟩ = some (.slice b m d) := cell_block x1 1
  clear hb1 hb3
  by_cases hz : C = 0
  case neg =>
    have hz1 : (C != 0) = true := by simpa using hz
    clear hz
    go_wp2_with fail
    refine (FrameErr_any a b n c m d ms ks _ (h1.keep B1) (h2.keep B1)).mono ?_
    rintro e w2 ⟨rfl, hb2⟩
    rw [HC.out]
    go_wp2_with fail
    go_ret
    exact ⟨rfl, B1.trans (hb2.mono B1.size)⟩
  subst hz
  go_wp2_with fail
  refine (FrameErr_any a b n c m d ms ks _ (h1.keep B1) (h2.keep B1)).mono ?_
  rintro e w2 ⟨rfl, hb2⟩
  rw [HC.out]
  have B2 := B1.trans (hb2.mono B1.size)
  replace x1 := blk_keep x1 hb2
  replace x2 := blk_keep x2 hb2
  replace x3 := blk_keep x3 hb2
  have s3' := blk_lt x3
  clear f0 f1 hb2 B1 s3
  have f0 : w2.cell? ⟨w.heap.size + 1, 0, none⟩ = some (.int .i64 x) := cell_block x2 0
  have f1 : w2.cell? ⟨w.heap.size + 1, 1, none⟩ = some (.int .i64 y) := cell_block x2 1
  by_cases hz : D = 0
  case neg =>
    have hz1 : (D != 0) = true := by simpa using hz
    clear hz
    go_wp2_with fail
    refine (rSquareErr_any x y _ hx1 hx2 hy2).mono ?_
    rintro e w3 ⟨rfl, hb3⟩
    rw [HD.out]
    go_wp2_with fail
    go_ret
    exact ⟨rfl, B2.trans (hb3.mono B2.size)⟩
  subst hz
  go_wp2_with fail
  refine (rSquareErr_any x y _ hx1 hx2 hy2).mono ?_
  rintro e w3 ⟨rfl, hb3⟩
  rw [HD.out]
  have B3 := B2.trans (hb3.mono B2.size)
  replace x1 := blk_keep x1 hb3
  replace x2 := blk_keep x2 hb3
  replace x3 := blk_keep x3 hb3
  have s3 := blk_lt x3
  clear f0 f1 hb3 B2 s3'
  have fr := fr_of HC.out
  obtain ⟨l1, l2⟩ : n ≤ ms.length ∧ ms.length ≤ n := by have := h1.len; omega
  obtain ⟨l3, l4⟩ : m ≤ n ∧ n ≤ m := by have := h2.len; have := fr.len; omega
  obtain ⟨l5, l6⟩ : 0 < n ∧ n ≤ 4 := by have := fr.pos; have := fr.few; omega
  have e1 := Int.emod_nonneg p (by omega : (n : Int) ≠ 0)
  have e2 := Int.emod_lt_of_pos p (by omega : (0 : Int) < n)
  have e3 := Int.emod_nonneg q (by omega : (n : Int) ≠ 0)
  have e4 := Int.emod_lt_of_pos q (by omega : (0 : Int) < n)
  obtain ⟨i, hi⟩ : ∃ i : Nat, p % (n : Int) = i := ⟨(p % (n : Int)).toNat, by omega⟩
  obtain ⟨mode, hmode⟩ : ∃ i : Nat, q % (n : Int) = i := ⟨(q % (n : Int)).toNat, by omega⟩
  rw [hi] at e2
  rw [hmode] at e4
  have HI := Lib.hid hi
  have HO := Lib.hid hmode
  have FR := Lib.hid fr
  clear hi hmode e1 e3 fr
  have f0 : w3.cell? ⟨w.heap.size, 0, none⟩ = some (.slice a n c) := cell_block x1 0
  have f1 : w3.cell? ⟨w.heap.size, 1, none⟩ = some (.slice b m d) := cell_block x1 1
  have f2 : w3.cell? ⟨w.heap.size + 1 + 1, 0, none⟩ = some (.int .i64 p) := cell_block x3 0
  have f3 : w3.cell? ⟨w.heap.size + 1 + 1, 1, none⟩ = some (.int .i64 q) := cell_block x3 1
  go_wp2_with fail
  refine Calmly.wp_region_mix 12 (.fl 0 <| .fl 1 <| .fl 2 <| .fl 3 <| .fl 4 <| .fl 6 <| .fl 7 <| .fl 8 <| .fl 9 <| .fl 10 <| .eff 5 <| .eff 11 <| .tail [12, 13]) (by kernel_rfl) (by kernel_rfl) ?_
  have hk := Below.refl w3.drew.heap.size w3.drew
  go_wp2_with (first | ((with_reducible refine Calmly.is_fl ?_); refine Calmly.mix_fl rfl ?_ (fun _ _ => ?_); (first | exact .move _ | exact .load _ _ | exact .fieldAddr _ _ _ (by kernel_rfl) | exact .assign _ | exact .binOp _ _ _ _ _ rfl | exact .indexAddr _ _ _ | exact .len _ _ (by kernel_rfl) | exact .field _ _ _ | exact .extract _ _ | exact .pick _ _ _ | exact .build _ _ | exact .slice _ _ _ _ _ | exact .unOp _ _ _ rfl | exact .index _ _ _ | exact .max _ _ _ rfl rfl | exact .min _ _ _ rfl rfl)) | ((with_reducible refine Calmly.is_gl ?_); refine Calmly.mix_gl rfl rfl rfl ?_; first | ((first | with_reducible refine Calmly.gl_tt ?_ (fun _ _ => ?_) | with_reducible refine Calmly.gl_ff ?_ (fun _ _ => ?_)); (first | exact .move _ | exact .load _ _ | exact .fieldAddr _ _ _ (by kernel_rfl) | exact .assign _ | exact .binOp _ _ _ _ _ rfl | exact .indexAddr _ _ _ | exact .len _ _ (by kernel_rfl) | exact .field _ _ _ | exact .extract _ _ | exact .pick _ _ _ | exact .build _ _ | exact .slice _ _ _ _ _ | exact .unOp _ _ _ rfl | exact .index _ _ _ | exact .max _ _ _ rfl rfl | exact .min _ _ _ rfl rfl)) | with_reducible refine Calmly.gl_tf (fun _ _ => ?_) | with_reducible refine Calmly.gl_ft (fun _ _ => ?_)) | ((with_reducible refine Calmly.is_eff ?_); refine Calmly.mix_eff rfl (fun _ _ => ?_)) | ((with_reducible refine Calmly.is_gf ?_); refine Calmly.mix_gf rfl rfl rfl ?_; first | with_reducible refine Calmly.gf_tt (fun _ _ => ?_) | with_reducible refine Calmly.gf_ff (fun _ _ => ?_) | with_reducible refine Calmly.gf_tf (kept_of hk) (fun _ _ => ?_) | with_reducible refine Calmly.gf_ft (kept_of hk) (fun _ _ => ?_)) | ((with_reducible refine Calmly.is_tail ?_); first | refine Calmly.mix_tail_nil ?_ | refine Calmly.mix_tail rfl (fun _ _ => ?_)) | ((with_reducible refine Calmly.is_kept ?_); refine ⟨kept_of hk, ?_⟩) | (with_reducible refine Calmly.mix_alt ?_ ?_) | (go_at_call 35; refine (mod_any _ _ _ (by omega) (by omega) (by omega) (by omega)).mono ?_; rintro e w' ⟨rfl, rfl⟩))
  rw [HI.out, HO.out]
  rename_i K hK
  have hK' := fun a w (h : Stop _) => hK a w h.out
  clear hK
  have B4 : Below w.heap.size w w3.drew.drew := B3.drew.drew
  replace x1 : w3.drew.drew.heap[w.heap.size]? = some (.cells #[.slice a n c, .slice b m d] 24) := x1
  replace x2 : w3.drew.drew.heap[w.heap.size + 1]? = some (.cells #[.int .i64 x, .int .i64 y] 34) := x2
  refine Calmly.wp_region_mix 6 (.fl 0 <| .fl 2 <| .alt 1 (.alt 3 (.alt 4 (.eff 5 <| .tail [6, 7]) (.eff 5 (.eff 4 <| .tail [6, 7]))) (.alt 4 (.alt 3 (.eff 5 <| .tail [6, 7]) (.eff 5 (.eff 3 <| .tail [6, 7]))) (.eff 5 (.alt 3 (.eff 4 <| .tail [6, 7]) (.eff 4 (.eff 3 <| .tail [6, 7])))))) (.alt 4 (.alt 1 (.alt 3 (.eff 5 <| .tail [6, 7]) (.eff 5 (.eff 3 <| .tail [6, 7]))) (.eff 5 (.eff 1 <| .eff 3 <| .tail [6, 7]))) (.eff 5 (.alt 1 (.alt 3 (.eff 4 <| .tail [6, 7]) (.eff 4 (.eff 3 <| .tail [6, 7]))) (.eff 4 (.eff 1 <| .eff 3 <| .tail [6, 7])))))) (by kernel_rfl) (by kernel_rfl) ?_
  clear hk f0 f1 f2 f3 x3 s3 B3
  generalize w3.drew.drew = w5 at B4 x1 x2 ⊢
  have HKK : ∀ (b9 b10 ga1 gb1 ga2 gb2 c1' d1' c2' d2' : Nat) (v : World), Four w5 b9 b10 ga1 gb1 ga2 gb2 c1' d1' c2' d2' n m ms ks v →
      K { tmps := #[Value.agg #[Value.slice a n c, Value.slice b m d], Value.agg #[Value.int IntKind.i64 x, Value.int IntKind.i64 y], Value.agg #[Value.int IntKind.i64 p, Value.int IntKind.i64 q], Value.pointer (some { block := w.heap.size, off := 0 }), Value.pointer (some { block := w.heap.size + 1, off := 0 }), Value.pointer (some { block := w.heap.size + 1 + 1, off := 0 }), Value.bool false, Value.int IntKind.i64 ↑i, Value.int IntKind.i64 ↑mode, Value.pointer (some { block := b9, off := 0 }), Value.pointer (some { block := b10, off := 0 }), undef, undef, undef, undef, undef, undef, undef, undef, undef, undef, undef, undef, Value.bool true, Value.bool false, Value.agg #[Value.slice a n c, Value.slice b m d], Value.int IntKind.i64 0, Value.bool false, Value.bool false, Value.agg #[Value.int IntKind.i64 x, Value.int IntKind.i64 y], Value.int IntKind.i64 0, Value.bool false, Value.bool false, Value.pointer (some { block := w.heap.size + 1 + 1, off := 0 }), Value.int IntKind.i64 p, Value.pointer (some { block := w.heap.size, off := 0 }), Value.slice a n c, Value.int IntKind.i64 ↑n, Value.int IntKind.i64 ↑i, Value.pointer (some { block := w.heap.size + 1 + 1, off := 1 }), Value.int IntKind.i64 q, Value.pointer (some { block := w.heap.size, off := 0 }), Value.slice a n c, Value.int IntKind.i64 ↑n, Value.int IntKind.i64 ↑mode, Value.agg #[Value.slice a n c, Value.slice b m d], Value.agg #[Value.slice (some { block := ga1, off := 0 }) n c1', Value.slice (some { block := gb1, off := 0 }) m d1'], Value.agg #[Value.slice a n c, Value.slice b m d], Value.agg #[Value.slice (some { block := ga2, off := 0 }) n c2', Value.slice (some { block := gb2, off := 0 }) m d2'], undef, undef, undef, undef, undef, undef, undef, undef, undef, undef, undef, undef, undef, undef, undef, undef, undef, undef, undef, undef, undef, undef, undef, undef, undef, undef, undef, undef, undef, undef, undef, undef, undef, undef, undef, undef, undef, undef, undef, undef, undef, undef, undef, undef, undef, undef, undef, undef, undef, undef, undef, undef, undef, undef, undef, undef, undef, undef, undef, undef, undef, undef, undef, undef, undef, undef, undef, undef, undef, undef, undef, undef, undef, undef, undef, undef, undef, undef, undef, undef, undef, undef, undef, undef, undef, undef, undef, undef, undef, undef, undef, undef, undef, undef, undef, undef, undef, undef, undef, undef, undef, undef, undef, undef, undef, undef, undef, undef, undef, undef, undef, undef, undef, undef, undef, undef, undef, undef, undef, undef], defers := [] } v := by
    intro b9 b10 ga1 gb1 ga2 gb2 c1' d1' c2' d2' v hv
    refine hK' _ _ ⟨?_⟩
    clear hK' K
    obtain ⟨k0, p9, p10, oA1, oB1, oA2, oB2, q1, q2, q3, q4, q5, q6, q7, q8, q9, q10, q11⟩ := hv
    have t90 := cell_block p9 0
    have t91 := cell_block p9 1
    have oC := oB1.cell i (by omega)
    have oF := oB1.free i
    have hst := oB1.stored i
    have HST := Lib.hid hst
    clear hst
    have hkb := FR.out.k i (by omega)
    obtain ⟨kv, hkv⟩ : ∃ kv, ks[i]?.getD 0 = kv := ⟨_, rfl⟩
    rw [hkv] at oC hkb
    have HKV := Lib.hid hkv
    clear hkv
    have i1 : (i : Int) < (m : Int) := by omega
    have i0 : (0 : Int) ≤ (i : Int) := by omega
    go_wp2_with fail
    refine Calmly.wp_region_mix 10 (.fl 0 <| .fl 1 <| .fl 2 <| .fl 3 <| .fl 4 <| .fl 5 <| .fl 6 <| .fl 7 <| .fl 8 <| .fl 9 <| .tail [10, 11]) (by kernel_rfl) (by kernel_rfl) ?_
    go_wp2_with (first | ((with_reducible refine Calmly.is_fl ?_); refine Calmly.mix_fl rfl ?_ (fun _ _ => ?_); (first | exact .move _ | exact .load _ _ | exact .fieldAddr _ _ _ (by kernel_rfl) | exact .assign _ | exact .binOp _ _ _ _ _ rfl | exact .indexAddr _ _ _ | exact .len _ _ (by kernel_rfl) | exact .field _ _ _ | exact .extract _ _ | exact .pick _ _ _ | exact .build _ _ | exact .slice _ _ _ _ _ | exact .unOp _ _ _ rfl | exact .index _ _ _ | exact .max _ _ _ rfl rfl | exact .min _ _ _ rfl rfl)) | ((with_reducible refine Calmly.is_gl ?_); refine Calmly.mix_gl rfl rfl rfl ?_; first | ((first | with_reducible refine Calmly.gl_tt ?_ (fun _ _ => ?_) | with_reducible refine Calmly.gl_ff ?_ (fun _ _ => ?_)); (first | exact .move _ | exact .load _ _ | exact .fieldAddr _ _ _ (by kernel_rfl) | exact .assign _ | exact .binOp _ _ _ _ _ rfl | exact .indexAddr _ _ _ | exact .len _ _ (by kernel_rfl) | exact .field _ _ _ | exact .extract _ _ | exact .pick _ _ _ | exact .build _ _ | exact .slice _ _ _ _ _ | exact .unOp _ _ _ rfl | exact .index _ _ _ | exact .max _ _ _ rfl rfl | exact .min _ _ _ rfl rfl)) | with_reducible refine Calmly.gl_tf (fun _ _ => ?_) | with_reducible refine Calmly.gl_ft (fun _ _ => ?_)) | ((with_reducible refine Calmly.is_eff ?_); refine Calmly.mix_eff rfl (fun _ _ => ?_)) | ((with_reducible refine Calmly.is_gf ?_); refine Calmly.mix_gf rfl rfl rfl ?_; first | with_reducible refine Calmly.gf_tt (fun _ _ => ?_) | with_reducible refine Calmly.gf_ff (fun _ _ => ?_) | with_reducible refine Calmly.gf_tf (kept_of hk) (fun _ _ => ?_) | with_reducible refine Calmly.gf_ft (kept_of hk) (fun _ _ => ?_)) | ((with_reducible refine Calmly.is_tail ?_); first | refine Calmly.mix_tail_nil ?_ | refine Calmly.mix_tail rfl (fun _ _ => ?_)) | ((with_reducible refine Calmly.is_kept ?_); refine ⟨kept_of hk, ?_⟩) | (with_reducible refine Calmly.mix_alt ?_ ?_))
    all_goals
      refine wp_gen (fun u => ∃ K1 : Int, kv ≤ K1 ∧ K1 ≤ 20 ∧ Below w5.heap.size w5 u ∧ u.heap[b9]? = some (.cells #[.slice (some ⟨ga1, 0, none⟩) n c1', .slice (some ⟨gb1, 0, none⟩) m d1'] 24) ∧ u.heap[b10]? = some (.cells #[.slice (some ⟨ga2, 0, none⟩) n c2', .slice (some ⟨gb2, 0, none⟩) m d2'] 24) ∧
        OwI u w5.heap.size (some ⟨ga1, 0, none⟩) n c1' ms ∧ OwI u w5.heap.size (some ⟨gb1, 0, none⟩) m d1' (ks.set i K1) ∧ OwI u w5.heap.size (some ⟨ga2, 0, none⟩) n c2' ms ∧ OwI u w5.heap.size (some ⟨gb2, 0, none⟩) m d2' ks)
        ⟨_, by omega, by omega, (k0.trans (HST.out _).2).drew, blk_other' p9 (Ne.symm q4) _ _, blk_other' p10 (Ne.symm q5) _ _, oA1.other q1 _, (HST.out _).1, oA2.other q2 _, oB2.other q3 _⟩ ?_
      clear oC oF HST k0 p9 p10 oA1 oB1 oA2 oB2 t90 t91
      rintro u ⟨K1, hK1, hK2, k0, p9, p10, oA1, oB1, oA2, oB2⟩
      have t100 := cell_block p10 0
      have oC := oA2.cell i (by omega)
      have oF := oA2.free i
      have hst := oA2.stored i
      have HST := Lib.hid hst
      clear hst
      have hmb := FR.out.m i (by omega)
      obtain ⟨mv, hmv⟩ : ∃ mv, ms[i]?.getD 0 = mv := ⟨_, rfl⟩
      rw [hmv] at oC hmb
      have HMV := Lib.hid hmv
      clear hmv
      have i2 : (i : Int) < (n : Int) := by omega
      go_wp2_with fail
      refine Calmly.wp_region_mix 10 (.fl 0 <| .fl 1 <| .fl 2 <| .fl 3 <| .fl 4 <| .fl 5 <| .fl 6 <| .fl 7 <| .fl 8 <| .fl 9 <| .tail [10, 11]) (by kernel_rfl) (by kernel_rfl) ?_
      go_wp2_with (first | ((with_reducible refine Calmly.is_fl ?_); refine Calmly.mix_fl rfl ?_ (fun _ _ => ?_); (first | exact .move _ | exact .load _ _ | exact .fieldAddr _ _ _ (by kernel_rfl) | exact .assign _ | exact .binOp _ _ _ _ _ rfl | exact .indexAddr _ _ _ | exact .len _ _ (by kernel_rfl) | exact .field _ _ _ | exact .extract _ _ | exact .pick _ _ _ | exact .build _ _ | exact .slice _ _ _ _ _ | exact .unOp _ _ _ rfl | exact .index _ _ _ | exact .max _ _ _ rfl rfl | exact .min _ _ _ rfl rfl)) | ((with_reducible refine Calmly.is_gl ?_); refine Calmly.mix_gl rfl rfl rfl ?_; first | ((first | with_reducible refine Calmly.gl_tt ?_ (fun _ _ => ?_) | with_reducible refine Calmly.gl_ff ?_ (fun _ _ => ?_)); (first | exact .move _ | exact .load _ _ | exact .fieldAddr _ _ _ (by kernel_rfl) | exact .assign _ | exact .binOp _ _ _ _ _ rfl | exact .indexAddr _ _ _ | exact .len _ _ (by kernel_rfl) | exact .field _ _ _ | exact .extract _ _ | exact .pick _ _ _ | exact .build _ _ | exact .slice _ _ _ _ _ | exact .unOp _ _ _ rfl | exact .index _ _ _ | exact .max _ _ _ rfl rfl | exact .min _ _ _ rfl rfl)) | with_reducible refine Calmly.gl_tf (fun _ _ => ?_) | with_reducible refine Calmly.gl_ft (fun _ _ => ?_)) | ((with_reducible refine Calmly.is_eff ?_); refine Calmly.mix_eff rfl (fun _ _ => ?_)) | ((with_reducible refine Calmly.is_gf ?_); refine Calmly.mix_gf rfl rfl rfl ?_; first | with_reducible refine Calmly.gf_tt (fun _ _ => ?_) | with_reducible refine Calmly.gf_ff (fun _ _ => ?_) | with_reducible refine Calmly.gf_tf (kept_of hk) (fun _ _ => ?_) | with_reducible refine Calmly.gf_ft (kept_of hk) (fun _ _ => ?_)) | ((with_reducible refine Calmly.is_tail ?_); first | refine Calmly.mix_tail_nil ?_ | refine Calmly.mix_tail rfl (fun _ _ => ?_)) | ((with_reducible refine Calmly.is_kept ?_); refine ⟨kept_of hk, ?_⟩) | (with_reducible refine Calmly.mix_alt ?_ ?_))
      all_goals
        refine wp_gen (fun v => ∃ M1 : Int, mv ≤ M1 ∧ M1 ≤ 10 ∧ Below w5.heap.size w5 v ∧ v.heap[b9]? = some (.cells #[.slice (some ⟨ga1, 0, none⟩) n c1', .slice (some ⟨gb1, 0, none⟩) m d1'] 24) ∧ v.heap[b10]? = some (.cells #[.slice (some ⟨ga2, 0, none⟩) n c2', .slice (some ⟨gb2, 0, none⟩) m d2'] 24) ∧
          SI v (some ⟨ga1, 0, none⟩) n c1' ms ∧ SI v (some ⟨gb1, 0, none⟩) m d1' (ks.set i K1) ∧ SI v (some ⟨ga2, 0, none⟩) n c2' (ms.set i M1) ∧ SI v (some ⟨gb2, 0, none⟩) m d2' ks)
          ⟨_, by omega, by omega, (k0.trans (HST.out _).2).drew, blk_other' p9 (Ne.symm q8) _ _, blk_other' p10 (Ne.symm q9) _ _, (oA1.other q6 _).si, (oB1.other (Ne.symm q2) _).si, (HST.out _).1.si, (oB2.other q7 _).si⟩ ?_
        clear oC oF HST k0 p9 p10 oA1 oB1 oA2 oB2 t100
        rintro v ⟨M1, hM1, hM2, k0, p9, p10, z1, z2, z3, z4⟩
        have hf := stiff_facts HC.out i mode (by omega) (by omega) (K1 := K1) (M1 := M1) (by rw [HKV.out]; exact hK1) hK2 (by rw [HMV.out]; exact hM1) hM2 HD.out
        obtain ⟨hc1, hc2, d1, d2, d3, d4, d5, d6⟩ := hf
        obtain ⟨A1, hA1⟩ : ∃ A, belowF ms ks x y = A := ⟨_, rfl⟩
        obtain ⟨A2, hA2⟩ : ∃ A, belowF ms (ks.set i K1) x y = A := ⟨_, rfl⟩
        obtain ⟨A3, hA3⟩ : ∃ A, belowF (ms.set i M1) ks x y = A := ⟨_, rfl⟩
        rw [hA1] at d1 d2
        rw [hA2] at d1
        rw [hA3] at d2
        obtain ⟨⟨R1, R2⟩, hR⟩ : ∃ A, encF ms ks (mode : Int) 10 = A := ⟨_, rfl⟩
        obtain ⟨⟨P1, P2⟩, hP⟩ : ∃ A, encF ms (ks.set i K1) (mode : Int) 10 = A := ⟨_, rfl⟩
        obtain ⟨⟨Q1, Q2⟩, hQ⟩ : ∃ A, encF (ms.set i M1) ks (mode : Int) 10 = A := ⟨_, rfl⟩
        rw [hR] at d3 d4 d5 d6
        rw [hP] at d5 d6
        rw [hQ] at d3 d4
        dsimp only at d3 d4 d5 d6
        have HA1 := Lib.hid hA1
        have HA2 := Lib.hid hA2
        have HA3 := Lib.hid hA3
        have HR := Lib.hid hR
        have HP := Lib.hid hP
        have HQ := Lib.hid hQ
        have HC1 := Lib.hid hc1
        have HC2 := Lib.hid hc2
        clear hA1 hA2 hA3 hR hP hQ hc1 hc2 hK1 hK2 hM1 hM2 hkb hmb i0 i1 i2
        have hE0 : ∀ f g : List Int, (checkF f g).2 = 0 → (if (checkF f g).2 = 0 then squareE x y else (checkF f g).2) = 0 := fun f g h => by rw [if_pos h]; exact HD.out
        have hE1 : ∀ f g : List Int, (checkF f g).2 = 0 → f.length = n → encErr f g (mode : Int) 10 = 0 := fun f g h hl => by unfold encErr; rw [h, firstE_three, if_pos rfl]; simp [unlessE, wIn, hl]; omega
        have HE0 := Lib.hid hE0
        have HE1 := Lib.hid hE1
        clear hE0 hE1
        have hb9 := blk_lt p9
        have hb10 := blk_lt p10
        have BV := B4.trans (k0.mono B4.size)
        have y1 := blk_keep x1 k0
        have y2 := blk_keep x2 k0
        have hsv := blk_lt y2
        clear k0
        have f0 : v.cell? ⟨w.heap.size, 0, none⟩ = some (.slice a n c) := cell_block y1 0
        have f1 : v.cell? ⟨w.heap.size, 1, none⟩ = some (.slice b m d) := cell_block y1 1
        have f2 : v.cell? ⟨w.heap.size + 1, 0, none⟩ = some (.int .i64 x) := cell_block y2 0
        have f3 : v.cell? ⟨w.heap.size + 1, 1, none⟩ = some (.int .i64 y) := cell_block y2 1
        have f4 := cell_block p9 0
        have f5 := cell_block p9 1
        have f6 := cell_block p10 0
        have f7 := cell_block p10 1
        go_wp2_with fail
        refine Calmly.wp_region_mix 8 (.fl 0 <| .fl 2 <| .eff 1 <| .eff 3 <| .fl 4 <| .fl 5 <| .fl 6 <| .fl 7 <| .tail [8]) (by kernel_rfl) (by kernel_rfl) ?_
        have hk := Below.refl v.drew.heap.size v.drew
        go_wp2_with (first | ((with_reducible refine Calmly.is_fl ?_); refine Calmly.mix_fl rfl ?_ (fun _ _ => ?_); (first | exact .move _ | exact .load _ _ | exact .fieldAddr _ _ _ (by kernel_rfl) | exact .assign _ | exact .binOp _ _ _ _ _ rfl | exact .indexAddr _ _ _ | exact .len _ _ (by kernel_rfl) | exact .field _ _ _ | exact .extract _ _ | exact .pick _ _ _ | exact .build _ _ | exact .slice _ _ _ _ _ | exact .unOp _ _ _ rfl | exact .index _ _ _ | exact .max _ _ _ rfl rfl | exact .min _ _ _ rfl rfl)) | ((with_reducible refine Calmly.is_gl ?_); refine Calmly.mix_gl rfl rfl rfl ?_; first | ((first | with_reducible refine Calmly.gl_tt ?_ (fun _ _ => ?_) | with_reducible refine Calmly.gl_ff ?_ (fun _ _ => ?_)); (first | exact .move _ | exact .load _ _ | exact .fieldAddr _ _ _ (by kernel_rfl) | exact .assign _ | exact .binOp _ _ _ _ _ rfl | exact .indexAddr _ _ _ | exact .len _ _ (by kernel_rfl) | exact .field _ _ _ | exact .extract _ _ | exact .pick _ _ _ | exact .build _ _ | exact .slice _ _ _ _ _ | exact .unOp _ _ _ rfl | exact .index _ _ _ | exact .max _ _ _ rfl rfl | exact .min _ _ _ rfl rfl)) | with_reducible refine Calmly.gl_tf (fun _ _ => ?_) | with_reducible refine Calmly.gl_ft (fun _ _ => ?_)) | ((with_reducible refine Calmly.is_eff ?_); refine Calmly.mix_eff rfl (fun _ _ => ?_)) | ((with_reducible refine Calmly.is_gf ?_); refine Calmly.mix_gf rfl rfl rfl ?_; first | with_reducible refine Calmly.gf_tt (fun _ _ => ?_) | with_reducible refine Calmly.gf_ff (fun _ _ => ?_) | with_reducible refine Calmly.gf_tf (kept_of hk) (fun _ _ => ?_) | with_reducible refine Calmly.gf_ft (kept_of hk) (fun _ _ => ?_)) | ((with_reducible refine Calmly.is_tail ?_); first | refine Calmly.mix_tail_nil ?_ | refine Calmly.mix_tail rfl (fun _ _ => ?_)) | ((with_reducible refine Calmly.is_kept ?_); refine ⟨kept_of hk, ?_⟩) | (with_reducible refine Calmly.mix_alt ?_ ?_))
        refine (Copy_any a b n c m d ms ks _ (h1.keep BV.drew) (h2.keep BV.drew) (by omega) (by omega)).mono ?_
        rintro e u9 ⟨aN, cN, bN, dN, BN, rfl, oN1, oN2, _, _, hb⟩
        replace hk := step_of hk hb
        clear hb
        go_wp2_with (first | ((with_reducible refine Calmly.is_fl ?_); refine Calmly.mix_fl rfl ?_ (fun _ _ => ?_); (first | exact .move _ | exact .load _ _ | exact .fieldAddr _ _ _ (by kernel_rfl) | exact .assign _ | exact .binOp _ _ _ _ _ rfl | exact .indexAddr _ _ _ | exact .len _ _ (by kernel_rfl) | exact .field _ _ _ | exact .extract _ _ | exact .pick _ _ _ | exact .build _ _ | exact .slice _ _ _ _ _ | exact .unOp _ _ _ rfl | exact .index _ _ _ | exact .max _ _ _ rfl rfl | exact .min _ _ _ rfl rfl)) | ((with_reducible refine Calmly.is_gl ?_); refine Calmly.mix_gl rfl rfl rfl ?_; first | ((first | with_reducible refine Calmly.gl_tt ?_ (fun _ _ => ?_) | with_reducible refine Calmly.gl_ff ?_ (fun _ _ => ?_)); (first | exact .move _ | exact .load _ _ | exact .fieldAddr _ _ _ (by kernel_rfl) | exact .assign _ | exact .binOp _ _ _ _ _ rfl | exact .indexAddr _ _ _ | exact .len _ _ (by kernel_rfl) | exact .field _ _ _ | exact .extract _ _ | exact .pick _ _ _ | exact .build _ _ | exact .slice _ _ _ _ _ | exact .unOp _ _ _ rfl | exact .index _ _ _ | exact .max _ _ _ rfl rfl | exact .min _ _ _ rfl rfl)) | with_reducible refine Calmly.gl_tf (fun _ _ => ?_) | with_reducible refine Calmly.gl_ft (fun _ _ => ?_)) | ((with_reducible refine Calmly.is_eff ?_); refine Calmly.mix_eff rfl (fun _ _ => ?_)) | ((with_reducible refine Calmly.is_gf ?_); refine Calmly.mix_gf rfl rfl rfl ?_; first | with_reducible refine Calmly.gf_tt (fun _ _ => ?_) | with_reducible refine Calmly.gf_ff (fun _ _ => ?_) | with_reducible refine Calmly.gf_tf (kept_of hk) (fun _ _ => ?_) | with_reducible refine Calmly.gf_ft (kept_of hk) (fun _ _ => ?_)) | ((with_reducible refine Calmly.is_tail ?_); first | refine Calmly.mix_tail_nil ?_ | refine Calmly.mix_tail rfl (fun _ _ => ?_)) | ((with_reducible refine Calmly.is_kept ?_); refine ⟨kept_of hk, ?_⟩) | (with_reducible refine Calmly.mix_alt ?_ ?_))
        refine (CountBelow_any aN bN n cN m dN ms ks x y _ oN1.si oN2.si hx1 hx2 hy2 0 A1 (HE0.out _ _ HC.out) (fun _ => HA1.out) (fun h => absurd rfl h)).mono ?_
        rintro e v9 ⟨rfl, hb⟩
        replace hk := step_of hk hb
        clear hb oN1 oN2 f0 f1 f2 f3 f4 f5 f6 f7
        go_wp2_with (first | ((with_reducible refine Calmly.is_fl ?_); refine Calmly.mix_fl rfl ?_ (fun _ _ => ?_); (first | exact .move _ | exact .load _ _ | exact .fieldAddr _ _ _ (by kernel_rfl) | exact .assign _ | exact .binOp _ _ _ _ _ rfl | exact .indexAddr _ _ _ | exact .len _ _ (by kernel_rfl) | exact .field _ _ _ | exact .extract _ _ | exact .pick _ _ _ | exact .build _ _ | exact .slice _ _ _ _ _ | exact .unOp _ _ _ rfl | exact .index _ _ _ | exact .max _ _ _ rfl rfl | exact .min _ _ _ rfl rfl)) | ((with_reducible refine Calmly.is_gl ?_); refine Calmly.mix_gl rfl rfl rfl ?_; first | ((first | with_reducible refine Calmly.gl_tt ?_ (fun _ _ => ?_) | with_reducible refine Calmly.gl_ff ?_ (fun _ _ => ?_)); (first | exact .move _ | exact .load _ _ | exact .fieldAddr _ _ _ (by kernel_rfl) | exact .assign _ | exact .binOp _ _ _ _ _ rfl | exact .indexAddr _ _ _ | exact .len _ _ (by kernel_rfl) | exact .field _ _ _ | exact .extract _ _ | exact .pick _ _ _ | exact .build _ _ | exact .slice _ _ _ _ _ | exact .unOp _ _ _ rfl | exact .index _ _ _ | exact .max _ _ _ rfl rfl | exact .min _ _ _ rfl rfl)) | with_reducible refine Calmly.gl_tf (fun _ _ => ?_) | with_reducible refine Calmly.gl_ft (fun _ _ => ?_)) | ((with_reducible refine Calmly.is_eff ?_); refine Calmly.mix_eff rfl (fun _ _ => ?_)) | ((with_reducible refine Calmly.is_gf ?_); refine Calmly.mix_gf rfl rfl rfl ?_; first | with_reducible refine Calmly.gf_tt (fun _ _ => ?_) | with_reducible refine Calmly.gf_ff (fun _ _ => ?_) | with_reducible refine Calmly.gf_tf (kept_of hk) (fun _ _ => ?_) | with_reducible refine Calmly.gf_ft (kept_of hk) (fun _ _ => ?_)) | ((with_reducible refine Calmly.is_tail ?_); first | refine Calmly.mix_tail_nil ?_ | refine Calmly.mix_tail rfl (fun _ _ => ?_)) | ((with_reducible refine Calmly.is_kept ?_); refine ⟨kept_of hk, ?_⟩) | (with_reducible refine Calmly.mix_alt ?_ ?_))
        replace p9 := blk_keep (w := v.drew) p9 hk
        replace p10 := blk_keep (w := v.drew) p10 hk
        replace y1 := blk_keep (w := v.drew) y1 hk
        replace y2 := blk_keep (w := v.drew) y2 hk
        replace z1 := z1.drew.keep hk
        replace z2 := z2.drew.keep hk
        replace z3 := z3.drew.keep hk
        replace z4 := z4.drew.keep hk
        replace BV := BV.drew.trans (hk.mono BV.size)
        have hs9 := hk.size
        replace hb9 := blk_lt p9
        replace hb10 := blk_lt p10
        clear hk
        have f0 : v9.cell? ⟨w.heap.size, 0, none⟩ = some (.slice a n c) := cell_block y1 0
        have f1 : v9.cell? ⟨w.heap.size, 1, none⟩ = some (.slice b m d) := cell_block y1 1
        have f2 : v9.cell? ⟨w.heap.size + 1, 0, none⟩ = some (.int .i64 x) := cell_block y2 0
        have f3 : v9.cell? ⟨w.heap.size + 1, 1, none⟩ = some (.int .i64 y) := cell_block y2 1
        have f4 := cell_block p9 0
        have f5 := cell_block p9 1
        have f6 := cell_block p10 0
        have f7 := cell_block p10 1
        go_wp2_with fail
        refine Calmly.wp_region_mix 8 (.fl 0 <| .fl 2 <| .eff 1 <| .eff 3 <| .fl 4 <| .fl 5 <| .fl 6 <| .fl 7 <| .tail [8]) (by kernel_rfl) (by kernel_rfl) ?_
        have hk := Below.refl v9.drew.heap.size v9.drew
        go_wp2_with (first | ((with_reducible refine Calmly.is_fl ?_); refine Calmly.mix_fl rfl ?_ (fun _ _ => ?_); (first | exact .move _ | exact .load _ _ | exact .fieldAddr _ _ _ (by kernel_rfl) | exact .assign _ | exact .binOp _ _ _ _ _ rfl | exact .indexAddr _ _ _ | exact .len _ _ (by kernel_rfl) | exact .field _ _ _ | exact .extract _ _ | exact .pick _ _ _ | exact .build _ _ | exact .slice _ _ _ _ _ | exact .unOp _ _ _ rfl | exact .index _ _ _ | exact .max _ _ _ rfl rfl | exact .min _ _ _ rfl rfl)) | ((with_reducible refine Calmly.is_gl ?_); refine Calmly.mix_gl rfl rfl rfl ?_; first | ((first | with_reducible refine Calmly.gl_tt ?_ (fun _ _ => ?_) | with_reducible refine Calmly.gl_ff ?_ (fun _ _ => ?_)); (first | exact .move _ | exact .load _ _ | exact .fieldAddr _ _ _ (by kernel_rfl) | exact .assign _ | exact .binOp _ _ _ _ _ rfl | exact .indexAddr _ _ _ | exact .len _ _ (by kernel_rfl) | exact .field _ _ _ | exact .extract _ _ | exact .pick _ _ _ | exact .build _ _ | exact .slice _ _ _ _ _ | exact .unOp _ _ _ rfl | exact .index _ _ _ | exact .max _ _ _ rfl rfl | exact .min _ _ _ rfl rfl)) | with_reducible refine Calmly.gl_tf (fun _ _ => ?_) | with_reducible refine Calmly.gl_ft (fun _ _ => ?_)) | ((with_reducible refine Calmly.is_eff ?_); refine Calmly.mix_eff rfl (fun _ _ => ?_)) | ((with_reducible refine Calmly.is_gf ?_); refine Calmly.mix_gf rfl rfl rfl ?_; first | with_reducible refine Calmly.gf_tt (fun _ _ => ?_) | with_reducible refine Calmly.gf_ff (fun _ _ => ?_) | with_reducible refine Calmly.gf_tf (kept_of hk) (fun _ _ => ?_) | with_reducible refine Calmly.gf_ft (kept_of hk) (fun _ _ => ?_)) | ((with_reducible refine Calmly.is_tail ?_); first | refine Calmly.mix_tail_nil ?_ | refine Calmly.mix_tail rfl (fun _ _ => ?_)) | ((with_reducible refine Calmly.is_kept ?_); refine ⟨kept_of hk, ?_⟩) | (with_reducible refine Calmly.mix_alt ?_ ?_))
        refine (Copy_any (some ⟨ga1, 0, none⟩) (some ⟨gb1, 0, none⟩) n c1' m d1' ms (ks.set i K1) _ z1.drew z2.drew (by omega) (by omega)).mono ?_
        rintro e u10 ⟨aN, cN, bN, dN, BN, rfl, oN1, oN2, _, _, hb⟩
        replace hk := step_of hk hb
        clear hb
        go_wp2_with (first | ((with_reducible refine Calmly.is_fl ?_); refine Calmly.mix_fl rfl ?_ (fun _ _ => ?_); (first | exact .move _ | exact .load _ _ | exact .fieldAddr _ _ _ (by kernel_rfl) | exact .assign _ | exact .binOp _ _ _ _ _ rfl | exact .indexAddr _ _ _ | exact .len _ _ (by kernel_rfl) | exact .field _ _ _ | exact .extract _ _ | exact .pick _ _ _ | exact .build _ _ | exact .slice _ _ _ _ _ | exact .unOp _ _ _ rfl | exact .index _ _ _ | exact .max _ _ _ rfl rfl | exact .min _ _ _ rfl rfl)) | ((with_reducible refine Calmly.is_gl ?_); refine Calmly.mix_gl rfl rfl rfl ?_; first | ((first | with_reducible refine Calmly.gl_tt ?_ (fun _ _ => ?_) | with_reducible refine Calmly.gl_ff ?_ (fun _ _ => ?_)); (first | exact .move _ | exact .load _ _ | exact .fieldAddr _ _ _ (by kernel_rfl) | exact .assign _ | exact .binOp _ _ _ _ _ rfl | exact .indexAddr _ _ _ | exact .len _ _ (by kernel_rfl) | exact .field _ _ _ | exact .extract _ _ | exact .pick _ _ _ | exact .build _ _ | exact .slice _ _ _ _ _ | exact .unOp _ _ _ rfl | exact .index _ _ _ | exact .max _ _ _ rfl rfl | exact .min _ _ _ rfl rfl)) | with_reducible refine Calmly.gl_tf (fun _ _ => ?_) | with_reducible refine Calmly.gl_ft (fun _ _ => ?_)) | ((with_reducible refine Calmly.is_eff ?_); refine Calmly.mix_eff rfl (fun _ _ => ?_)) | ((with_reducible refine Calmly.is_gf ?_); refine Calmly.mix_gf rfl rfl rfl ?_; first | with_reducible refine Calmly.gf_tt (fun _ _ => ?_) | with_reducible refine Calmly.gf_ff (fun _ _ => ?_) | with_reducible refine Calmly.gf_tf (kept_of hk) (fun _ _ => ?_) | with_reducible refine Calmly.gf_ft (kept_of hk) (fun _ _ => ?_)) | ((with_reducible refine Calmly.is_tail ?_); first | refine Calmly.mix_tail_nil ?_ | refine Calmly.mix_tail rfl (fun _ _ => ?_)) | ((with_reducible refine Calmly.is_kept ?_); refine ⟨kept_of hk, ?_⟩) | (with_reducible refine Calmly.mix_alt ?_ ?_))
        refine (CountBelow_any aN bN n cN m dN ms (ks.set i K1) x y _ oN1.si oN2.si hx1 hx2 hy2 0 A2 (HE0.out _ _ HC1.out) (fun _ => HA2.out) (fun h => absurd rfl h)).mono ?_
        rintro e v10 ⟨rfl, hb⟩
        replace hk := step_of hk hb
        clear hb oN1 oN2 f0 f1 f2 f3 f4 f5 f6 f7
        go_wp2_with (first | ((with_reducible refine Calmly.is_fl ?_); refine Calmly.mix_fl rfl ?_ (fun _ _ => ?_); (first | exact .move _ | exact .load _ _ | exact .fieldAddr _ _ _ (by kernel_rfl) | exact .assign _ | exact .binOp _ _ _ _ _ rfl | exact .indexAddr _ _ _ | exact .len _ _ (by kernel_rfl) | exact .field _ _ _ | exact .extract _ _ | exact .pick _ _ _ | exact .build _ _ | exact .slice _ _ _ _ _ | exact .unOp _ _ _ rfl | exact .index _ _ _ | exact .max _ _ _ rfl rfl | exact .min _ _ _ rfl rfl)) | ((with_reducible refine Calmly.is_gl ?_); refine Calmly.mix_gl rfl rfl rfl ?_; first | ((first | with_reducible refine Calmly.gl_tt ?_ (fun _ _ => ?_) | with_reducible refine Calmly.gl_ff ?_ (fun _ _ => ?_)); (first | exact .move _ | exact .load _ _ | exact .fieldAddr _ _ _ (by kernel_rfl) | exact .assign _ | exact .binOp _ _ _ _ _ rfl | exact .indexAddr _ _ _ | exact .len _ _ (by kernel_rfl) | exact .field _ _ _ | exact .extract _ _ | exact .pick _ _ _ | exact .build _ _ | exact .slice _ _ _ _ _ | exact .unOp _ _ _ rfl | exact .index _ _ _ | exact .max _ _ _ rfl rfl | exact .min _ _ _ rfl rfl)) | with_reducible refine Calmly.gl_tf (fun _ _ => ?_) | with_reducible refine Calmly.gl_ft (fun _ _ => ?_)) | ((with_reducible refine Calmly.is_eff ?_); refine Calmly.mix_eff rfl (fun _ _ => ?_)) | ((with_reducible refine Calmly.is_gf ?_); refine Calmly.mix_gf rfl rfl rfl ?_; first | with_reducible refine Calmly.gf_tt (fun _ _ => ?_) | with_reducible refine Calmly.gf_ff (fun _ _ => ?_) | with_reducible refine Calmly.gf_tf (kept_of hk) (fun _ _ => ?_) | with_reducible refine Calmly.gf_ft (kept_of hk) (fun _ _ => ?_)) | ((with_reducible refine Calmly.is_tail ?_); first | refine Calmly.mix_tail_nil ?_ | refine Calmly.mix_tail rfl (fun _ _ => ?_)) | ((with_reducible refine Calmly.is_kept ?_); refine ⟨kept_of hk, ?_⟩) | (with_reducible refine Calmly.mix_alt ?_ ?_))
        replace p9 := blk_keep (w := v9.drew) p9 hk
        replace p10 := blk_keep (w := v9.drew) p10 hk
        replace y1 := blk_keep (w := v9.drew) y1 hk
        replace y2 := blk_keep (w := v9.drew) y2 hk
        replace z1 := z1.drew.keep hk
        replace z2 := z2.drew.keep hk
        replace z3 := z3.drew.keep hk
        replace z4 := z4.drew.keep hk
        replace BV := BV.drew.trans (hk.mono BV.size)
        have hs10 := hk.size
        replace hb9 := blk_lt p9
        replace hb10 := blk_lt p10
        clear hk
        have f0 : v10.cell? ⟨w.heap.size, 0, none⟩ = some (.slice a n c) := cell_block y1 0
        have f1 : v10.cell? ⟨w.heap.size, 1, none⟩ = some (.slice b m d) := cell_block y1 1
        have f2 : v10.cell? ⟨w.heap.size + 1, 0, none⟩ = some (.int .i64 x) := cell_block y2 0
        have f3 : v10.cell? ⟨w.heap.size + 1, 1, none⟩ = some (.int .i64 y) := cell_block y2 1
        have f4 := cell_block p9 0
        have f5 := cell_block p9 1
        have f6 := cell_block p10 0
        have f7 := cell_block p10 1
        go_wp2_with fail
        refine Calmly.wp_region_mix 8 (.fl 0 <| .fl 2 <| .eff 1 <| .eff 3 <| .fl 4 <| .fl 5 <| .fl 6 <| .fl 7 <| .tail [8]) (by kernel_rfl) (by kernel_rfl) ?_
        have hk := Below.refl v10.drew.heap.size v10.drew
        go_wp2_with (first | ((with_reducible refine Calmly.is_fl ?_); refine Calmly.mix_fl rfl ?_ (fun _ _ => ?_); (first | exact .move _ | exact .load _ _ | exact .fieldAddr _ _ _ (by kernel_rfl) | exact .assign _ | exact .binOp _ _ _ _ _ rfl | exact .indexAddr _ _ _ | exact .len _ _ (by kernel_rfl) | exact .field _ _ _ | exact .extract _ _ | exact .pick _ _ _ | exact .build _ _ | exact .slice _ _ _ _ _ | exact .unOp _ _ _ rfl | exact .index _ _ _ | exact .max _ _ _ rfl rfl | exact .min _ _ _ rfl rfl)) | ((with_reducible refine Calmly.is_gl ?_); refine Calmly.mix_gl rfl rfl rfl ?_; first | ((first | with_reducible refine Calmly.gl_tt ?_ (fun _ _ => ?_) | with_reducible refine Calmly.gl_ff ?_ (fun _ _ => ?_)); (first | exact .move _ | exact .load _ _ | exact .fieldAddr _ _ _ (by kernel_rfl) | exact .assign _ | exact .binOp _ _ _ _ _ rfl | exact .indexAddr _ _ _ | exact .len _ _ (by kernel_rfl) | exact .field _ _ _ | exact .extract _ _ | exact .pick _ _ _ | exact .build _ _ | exact .slice _ _ _ _ _ | exact .unOp _ _ _ rfl | exact .index _ _ _ | exact .max _ _ _ rfl rfl | exact .min _ _ _ rfl rfl)) | with_reducible refine Calmly.gl_tf (fun _ _ => ?_) | with_reducible refine Calmly.gl_ft (fun _ _ => ?_)) | ((with_reducible refine Calmly.is_eff ?_); refine Calmly.mix_eff rfl (fun _ _ => ?_)) | ((with_reducible refine Calmly.is_gf ?_); refine Calmly.mix_gf rfl rfl rfl ?_; first | with_reducible refine Calmly.gf_tt (fun _ _ => ?_) | with_reducible refine Calmly.gf_ff (fun _ _ => ?_) | with_reducible refine Calmly.gf_tf (kept_of hk) (fun _ _ => ?_) | with_reducible refine Calmly.gf_ft (kept_of hk) (fun _ _ => ?_)) | ((with_reducible refine Calmly.is_tail ?_); first | refine Calmly.mix_tail_nil ?_ | refine Calmly.mix_tail rfl (fun _ _ => ?_)) | ((with_reducible refine Calmly.is_kept ?_); refine ⟨kept_of hk, ?_⟩) | (with_reducible refine Calmly.mix_alt ?_ ?_))
        refine (Copy_any (some ⟨ga2, 0, none⟩) (some ⟨gb2, 0, none⟩) n c2' m d2' (ms.set i M1) ks _ z3.drew z4.drew (by omega) (by omega)).mono ?_
        rintro e u11 ⟨aN, cN, bN, dN, BN, rfl, oN1, oN2, _, _, hb⟩
        replace hk := step_of hk hb
        clear hb
        go_wp2_with (first | ((with_reducible refine Calmly.is_fl ?_); refine Calmly.mix_fl rfl ?_ (fun _ _ => ?_); (first | exact .move _ | exact .load _ _ | exact .fieldAddr _ _ _ (by kernel_rfl) | exact .assign _ | exact .binOp _ _ _ _ _ rfl | exact .indexAddr _ _ _ | exact .len _ _ (by kernel_rfl) | exact .field _ _ _ | exact .extract _ _ | exact .pick _ _ _ | exact .build _ _ | exact .slice _ _ _ _ _ | exact .unOp _ _ _ rfl | exact .index _ _ _ | exact .max _ _ _ rfl rfl | exact .min _ _ _ rfl rfl)) | ((with_reducible refine Calmly.is_gl ?_); refine Calmly.mix_gl rfl rfl rfl ?_; first | ((first | with_reducible refine Calmly.gl_tt ?_ (fun _ _ => ?_) | with_reducible refine Calmly.gl_ff ?_ (fun _ _ => ?_)); (first | exact .move _ | exact .load _ _ | exact .fieldAddr _ _ _ (by kernel_rfl) | exact .assign _ | exact .binOp _ _ _ _ _ rfl | exact .indexAddr _ _ _ | exact .len _ _ (by kernel_rfl) | exact .field _ _ _ | exact .extract _ _ | exact .pick _ _ _ | exact .build _ _ | exact .slice _ _ _ _ _ | exact .unOp _ _ _ rfl | exact .index _ _ _ | exact .max _ _ _ rfl rfl | exact .min _ _ _ rfl rfl)) | with_reducible refine Calmly.gl_tf (fun _ _ => ?_) | with_reducible refine Calmly.gl_ft (fun _ _ => ?_)) | ((with_reducible refine Calmly.is_eff ?_); refine Calmly.mix_eff rfl (fun _ _ => ?_)) | ((with_reducible refine Calmly.is_gf ?_); refine Calmly.mix_gf rfl rfl rfl ?_; first | with_reducible refine Calmly.gf_tt (fun _ _ => ?_) | with_reducible refine Calmly.gf_ff (fun _ _ => ?_) | with_reducible refine Calmly.gf_tf (kept_of hk) (fun _ _ => ?_) | with_reducible refine Calmly.gf_ft (kept_of hk) (fun _ _ => ?_)) | ((with_reducible refine Calmly.is_tail ?_); first | refine Calmly.mix_tail_nil ?_ | refine Calmly.mix_tail rfl (fun _ _ => ?_)) | ((with_reducible refine Calmly.is_kept ?_); refine ⟨kept_of hk, ?_⟩) | (with_reducible refine Calmly.mix_alt ?_ ?_))
        refine (CountBelow_any aN bN n cN m dN (ms.set i M1) ks x y _ oN1.si oN2.si hx1 hx2 hy2 0 A3 (HE0.out _ _ HC2.out) (fun _ => HA3.out) (fun h => absurd rfl h)).mono ?_
        rintro e v11 ⟨rfl, hb⟩
        replace hk := step_of hk hb
        clear hb oN1 oN2 f0 f1 f2 f3 f4 f5 f6 f7
        replace p9 := blk_keep (w := v10.drew) p9 hk
        replace p10 := blk_keep (w := v10.drew) p10 hk
        replace y1 := blk_keep (w := v10.drew) y1 hk
        replace y2 := blk_keep (w := v10.drew) y2 hk
        replace z1 := z1.drew.keep hk
        replace z2 := z2.drew.keep hk
        replace z3 := z3.drew.keep hk
        replace z4 := z4.drew.keep hk
        replace BV := BV.drew.trans (hk.mono BV.size)
        have hs11 := hk.size
        replace hb9 := blk_lt p9
        replace hb10 := blk_lt p10
        have f0 : v11.cell? ⟨w.heap.size, 0, none⟩ = some (.slice a n c) := cell_block y1 0
        have f1 : v11.cell? ⟨w.heap.size, 1, none⟩ = some (.slice b m d) := cell_block y1 1
        go_wp2_with (first | ((with_reducible refine Calmly.is_fl ?_); refine Calmly.mix_fl rfl ?_ (fun _ _ => ?_); (first | exact .move _ | exact .load _ _ | exact .fieldAddr _ _ _ (by kernel_rfl) | exact .assign _ | exact .binOp _ _ _ _ _ rfl | exact .indexAddr _ _ _ | exact .len _ _ (by kernel_rfl) | exact .field _ _ _ | exact .extract _ _ | exact .pick _ _ _ | exact .build _ _ | exact .slice _ _ _ _ _ | exact .unOp _ _ _ rfl | exact .index _ _ _ | exact .max _ _ _ rfl rfl | exact .min _ _ _ rfl rfl)) | ((with_reducible refine Calmly.is_gl ?_); refine Calmly.mix_gl rfl rfl rfl ?_; first | ((first | with_reducible refine Calmly.gl_tt ?_ (fun _ _ => ?_) | with_reducible refine Calmly.gl_ff ?_ (fun _ _ => ?_)); (first | exact .move _ | exact .load _ _ | exact .fieldAddr _ _ _ (by kernel_rfl) | exact .assign _ | exact .binOp _ _ _ _ _ rfl | exact .indexAddr _ _ _ | exact .len _ _ (by kernel_rfl) | exact .field _ _ _ | exact .extract _ _ | exact .pick _ _ _ | exact .build _ _ | exact .slice _ _ _ _ _ | exact .unOp _ _ _ rfl | exact .index _ _ _ | exact .max _ _ _ rfl rfl | exact .min _ _ _ rfl rfl)) | with_reducible refine Calmly.gl_tf (fun _ _ => ?_) | with_reducible refine Calmly.gl_ft (fun _ _ => ?_)) | ((with_reducible refine Calmly.is_eff ?_); refine Calmly.mix_eff rfl (fun _ _ => ?_)) | ((with_reducible refine Calmly.is_gf ?_); refine Calmly.mix_gf rfl rfl rfl ?_; first | with_reducible refine Calmly.gf_tt (fun _ _ => ?_) | with_reducible refine Calmly.gf_ff (fun _ _ => ?_) | with_reducible refine Calmly.gf_tf (kept_of hk) (fun _ _ => ?_) | with_reducible refine Calmly.gf_ft (kept_of hk) (fun _ _ => ?_)) | ((with_reducible refine Calmly.is_tail ?_); first | refine Calmly.mix_tail_nil ?_ | refine Calmly.mix_tail rfl (fun _ _ => ?_)) | ((with_reducible refine Calmly.is_kept ?_); refine ⟨kept_of hk, ?_⟩) | (with_reducible refine Calmly.mix_alt ?_ ?_))
        clear hk
        refine (Copy_any a b n c m d ms ks _ (h1.keep BV) (h2.keep BV) (by omega) (by omega)).mono ?_
        rintro e v12 ⟨aN, cN, bN, dN, BN, rfl, oN1, oN2, _, _, hb⟩
        replace p9 := blk_keep p9 hb
        replace p10 := blk_keep p10 hb
        replace y1 := blk_keep y1 hb
        replace y2 := blk_keep y2 hb
        replace z1 := z1.keep hb
        replace z2 := z2.keep hb
        replace z3 := z3.keep hb
        replace z4 := z4.keep hb
        replace BV := BV.trans (hb.mono BV.size)
        clear hb f0 f1
        go_wp2_with fail
        refine (EnclosureOf_any aN bN n cN m dN ms ks mode 10 _ oN1.si oN2.si 0 R1 R2 (HE1.out _ _ HC.out (by omega)) (fun _ => HR.out) (fun h => absurd rfl h)).mono ?_
        rintro e v13 ⟨rfl, hb⟩
        replace p9 := blk_keep p9 hb
        replace p10 := blk_keep p10 hb
        replace y1 := blk_keep y1 hb
        replace y2 := blk_keep y2 hb
        replace z1 := z1.keep hb
        replace z2 := z2.keep hb
        replace z3 := z3.keep hb
        replace z4 := z4.keep hb
        replace BV := BV.trans (hb.mono BV.size)
        clear hb oN1 oN2
        have u1 := alloc_new v13 (.cells #[.int .i64 R1, .int .i64 R2] 63)
        have hb := hA v13 (.cells #[.int .i64 R1, .int .i64 R2] 63)
        replace p9 := blk_keep p9 hb
        replace p10 := blk_keep p10 hb
        replace y1 := blk_keep y1 hb
        replace y2 := blk_keep y2 hb
        replace z1 := z1.keep hb
        replace z2 := z2.keep hb
        replace z3 := z3.keep hb
        replace z4 := z4.keep hb
        replace BV := BV.trans (hb.mono BV.size)
        clear hb
        have f4 := cell_block p9 0
        have f5 := cell_block p9 1
        have e1 := blk_lt p9
        simp only [World.size_alloc] at e1
        go_wp2_with fail
        refine (EnclosureOf_any (some ⟨ga1, 0, none⟩) (some ⟨gb1, 0, none⟩) n c1' m d1' ms (ks.set i K1) mode 10 _ z1 z2 0 P1 P2 (HE1.out _ _ HC1.out (by omega)) (fun _ => HP.out) (fun h => absurd rfl h)).mono ?_
        rintro e v14 ⟨rfl, hb⟩
        replace p9 := blk_keep p9 hb
        replace p10 := blk_keep p10 hb
        replace y1 := blk_keep y1 hb
        replace y2 := blk_keep y2 hb
        replace z1 := z1.keep hb
        replace z2 := z2.keep hb
        replace z3 := z3.keep hb
        replace z4 := z4.keep hb
        replace u1 := blk_keep u1 hb
        replace BV := BV.trans (hb.mono BV.size)
        clear hb f4 f5
        have u2 := alloc_new v14 (.cells #[.int .i64 P1, .int .i64 P2] 63)
        have hb := hA v14 (.cells #[.int .i64 P1, .int .i64 P2] 63)
        replace p9 := blk_keep p9 hb
        replace p10 := blk_keep p10 hb
        replace y1 := blk_keep y1 hb
        replace y2 := blk_keep y2 hb
        replace z1 := z1.keep hb
        replace z2 := z2.keep hb
        replace z3 := z3.keep hb
        replace z4 := z4.keep hb
        replace u1 := blk_keep u1 hb
        replace BV := BV.trans (hb.mono BV.size)
        clear hb
        have f6 := cell_block p10 0
        have f7 := cell_block p10 1
        go_wp2_with fail
        refine (EnclosureOf_any (some ⟨ga2, 0, none⟩) (some ⟨gb2, 0, none⟩) n c2' m d2' (ms.set i M1) ks mode 10 _ z3 z4 0 Q1 Q2 (HE1.out _ _ HC2.out (by simp; omega)) (fun _ => HQ.out) (fun h => absurd rfl h)).mono ?_
        rintro e v15 ⟨rfl, hb⟩
        replace u1 := blk_keep u1 hb
        replace u2 := blk_keep u2 hb
        replace BV := BV.trans (hb.mono BV.size)
        clear hb f6 f7
        have u3 := alloc_new v15 (.cells #[.int .i64 Q1, .int .i64 Q2] 63)
        have hb := hA v15 (.cells #[.int .i64 Q1, .int .i64 Q2] 63)
        replace u1 := blk_keep u1 hb
        replace u2 := blk_keep u2 hb
        replace BV := BV.trans (hb.mono BV.size)
        clear hb
        have f10 := cell_block u1 0
        have f11 := cell_block u1 1
        have f20 := cell_block u2 0
        have f21 := cell_block u2 1
        have f30 := cell_block u3 0
        have f31 := cell_block u3 1
        go_wp2_with fail
        go_ret
        exact ⟨rfl, BV⟩
  have HK2 := Lib.hid HKK
  clear hK' HKK
  have f0 : w5.cell? ⟨w.heap.size, 0, none⟩ = some (.slice a n c) := cell_block x1 0
  have f1 : w5.cell? ⟨w.heap.size, 1, none⟩ = some (.slice b m d) := cell_block x1 1
  have hk := Below.refl w5.heap.size w5
  go_wp2_with (first | ((with_reducible refine Calmly.is_fl ?_); refine Calmly.mix_fl rfl ?_ (fun _ _ => ?_); (first | exact .move _ | exact .load _ _ | exact .fieldAddr _ _ _ (by kernel_rfl) | exact .assign _ | exact .binOp _ _ _ _ _ rfl | exact .indexAddr _ _ _ | exact .len _ _ (by kernel_rfl) | exact .field _ _ _ | exact .extract _ _ | exact .pick _ _ _ | exact .build _ _ | exact .slice _ _ _ _ _ | exact .unOp _ _ _ rfl | exact .index _ _ _ | exact .max _ _ _ rfl rfl | exact .min _ _ _ rfl rfl)) | ((with_reducible refine Calmly.is_gl ?_); refine Calmly.mix_gl rfl rfl rfl ?_; first | ((first | with_reducible refine Calmly.gl_tt ?_ (fun _ _ => ?_) | with_reducible refine Calmly.gl_ff ?_ (fun _ _ => ?_)); (first | exact .move _ | exact .load _ _ | exact .fieldAddr _ _ _ (by kernel_rfl) | exact .assign _ | exact .binOp _ _ _ _ _ rfl | exact .indexAddr _ _ _ | exact .len _ _ (by kernel_rfl) | exact .field _ _ _ | exact .extract _ _ | exact .pick _ _ _ | exact .build _ _ | exact .slice _ _ _ _ _ | exact .unOp _ _ _ rfl | exact .index _ _ _ | exact .max _ _ _ rfl rfl | exact .min _ _ _ rfl rfl)) | with_reducible refine Calmly.gl_tf (fun _ _ => ?_) | with_reducible refine Calmly.gl_ft (fun _ _ => ?_)) | ((with_reducible refine Calmly.is_eff ?_); refine Calmly.mix_eff rfl (fun _ _ => ?_)) | ((with_reducible refine Calmly.is_gf ?_); refine Calmly.mix_gf rfl rfl rfl ?_; first | with_reducible refine Calmly.gf_tt (fun _ _ => ?_) | with_reducible refine Calmly.gf_ff (fun _ _ => ?_) | with_reducible refine Calmly.gf_tf (kept_of hk) (fun _ _ => ?_) | with_reducible refine Calmly.gf_ft (kept_of hk) (fun _ _ => ?_)) | ((with_reducible refine Calmly.is_kept ?_); refine ⟨kept_of hk, ?_⟩) | (with_reducible refine Calmly.mix_alt ?_ ?_) | (refine kept_allocB hk (fun hs hk' hblk => ?_); have hq := pA; generalize World.alloc _ _ = W' at hs hk' hblk ⊢; replace hk := hk'; clear hk'; (try replace oA1 := oA1.keep hs); (try replace oB1 := oB1.keep hs); (try replace oA2 := oA2.keep hs); (try replace oB2 := oB2.keep hs); (try replace pA := blk_keep pA hs); (try replace pB := blk_keep pB hs); have pB := hblk; have hsz := blk_lt hblk; clear hs hblk) | (refine kept_allocB hk (fun hs hk' hblk => ?_); skip; generalize World.alloc _ _ = W' at hs hk' hblk ⊢; replace hk := hk'; clear hk'; (try replace oA1 := oA1.keep hs); (try replace oB1 := oB1.keep hs); (try replace oA2 := oA2.keep hs); (try replace oB2 := oB2.keep hs); (try replace pA := blk_keep pA hs); (try replace pB := blk_keep pB hs); have pA := hblk; have hsz := blk_lt hblk; clear hs hblk) | (go_at_call 18; have hq := oA1; refine (Copy_any a b n c m d ms ks _ ((h1.keep B4).keep hk) ((h2.keep B4).keep hk) (by omega) (by omega)).mono ?_; rintro e w' ⟨a2, c2', b2, d2', BB, rfl, oA2, oB2, hB, hgB, hs⟩; obtain ⟨ga2, rfl, hg1, hg2⟩ := oA2.at_ (by omega); obtain ⟨gb2, rfl, hg3, hg4⟩ := oB2.at_ (by omega); have hg5 := hgB _ rfl; replace hk := step_of hk hs; (try replace oA1 := oA1.keep hs); (try replace oB1 := oB1.keep hs); (try replace pA := blk_keep pA hs); (try replace pB := blk_keep pB hs); clear hgB hs) | (go_at_call 18; refine (Copy_any a b n c m d ms ks _ ((h1.keep B4).keep hk) ((h2.keep B4).keep hk) (by omega) (by omega)).mono ?_; rintro e w' ⟨a1, c1', b1, d1', BB, rfl, oA1, oB1, hB, hgB, hs⟩; obtain ⟨ga1, rfl, hg1, hg2⟩ := oA1.at_ (by omega); obtain ⟨gb1, rfl, hg3, hg4⟩ := oB1.at_ (by omega); have hg5 := hgB _ rfl; replace hk := step_of hk hs; (try replace pA := blk_keep pA hs); (try replace pB := blk_keep pB hs); clear hgB hs))
  all_goals
    have zA0 := cell_block pA 0
    have zA1 := cell_block pA 1
    have zA2 := frozen_block pA 0
    have zA3 := frozen_block pA 1
    have zB0 := cell_block pB 0
    have zB1 := cell_block pB 1
    have zB2 := frozen_block pB 0
    have zB3 := frozen_block pB 1
  go_wp2_with (first | ((with_reducible refine Calmly.is_fl ?_); refine Calmly.mix_fl rfl ?_ (fun _ _ => ?_); (first | exact .move _ | exact .load _ _ | exact .fieldAddr _ _ _ (by kernel_rfl) | exact .assign _ | exact .binOp _ _ _ _ _ rfl | exact .indexAddr _ _ _ | exact .len _ _ (by kernel_rfl) | exact .field _ _ _ | exact .extract _ _ | exact .pick _ _ _ | exact .build _ _ | exact .slice _ _ _ _ _ | exact .unOp _ _ _ rfl | exact .index _ _ _ | exact .max _ _ _ rfl rfl | exact .min _ _ _ rfl rfl)) | ((with_reducible refine Calmly.is_gl ?_); refine Calmly.mix_gl rfl rfl rfl ?_; first | ((first | with_reducible refine Calmly.gl_tt ?_ (fun _ _ => ?_) | with_reducible refine Calmly.gl_ff ?_ (fun _ _ => ?_)); (first | exact .move _ | exact .load _ _ | exact .fieldAddr _ _ _ (by kernel_rfl) | exact .assign _ | exact .binOp _ _ _ _ _ rfl | exact .indexAddr _ _ _ | exact .len _ _ (by kernel_rfl) | exact .field _ _ _ | exact .extract _ _ | exact .pick _ _ _ | exact .build _ _ | exact .slice _ _ _ _ _ | exact .unOp _ _ _ rfl | exact .index _ _ _ | exact .max _ _ _ rfl rfl | exact .min _ _ _ rfl rfl)) | with_reducible refine Calmly.gl_tf (fun _ _ => ?_) | with_reducible refine Calmly.gl_ft (fun _ _ => ?_)) | ((with_reducible refine Calmly.is_eff ?_); refine Calmly.mix_eff rfl (fun _ _ => ?_)) | ((with_reducible refine Calmly.is_gf ?_); refine Calmly.mix_gf rfl rfl rfl ?_; first | with_reducible refine Calmly.gf_tt (fun _ _ => ?_) | with_reducible refine Calmly.gf_ff (fun _ _ => ?_) | with_reducible refine Calmly.gf_tf (kept_of hk) (fun _ _ => ?_) | with_reducible refine Calmly.gf_ft (kept_of hk) (fun _ _ => ?_)) | ((with_reducible refine Calmly.is_tail ?_); first | refine Calmly.mix_tail_nil ?_ | refine Calmly.mix_tail rfl (fun _ _ => ?_)) | ((with_reducible refine Calmly.is_kept ?_); refine ⟨kept_of hk, ?_⟩) | (with_reducible refine Calmly.mix_alt ?_ ?_))
  all_goals first
    | exact HK2.out _ _ _ _ _ _ _ _ _ _ _ (four hk pA pB oA1 oB1 oA2 oB2 (by omega) (by omega) (by omega) (by omega) (by omega) (by omega) (by omega) (by omega) (by omega) (by omega) (by omega) (by omega))
    | exact HK2.out _ _ _ _ _ _ _ _ _ _ _ (four hk pB pA oA1 oB1 oA2 oB2 (by omega) (by omega) (by omega) (by omega) (by omega) (by omega) (by omega) (by omega) (by omega) (by omega) (by omega) (by omega))
end Go.Proofs.Ytmaidjankakppaa
