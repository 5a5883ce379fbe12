/- The reference's solution of equations, by elimination. Contracts of the small functions of chapter 2's package. -/
import Derived.Test.YtfjcfbmfpefabaaGreatK11
namespace Go.Proofs.YtfjcfbmfpefabaaGreat
open Go.RowKit Go.Wides
open Calmly (Kept)

/-- Whether an element was already changed for a column, up to a row and an element of it. -/
def dnS (c i k i' k' : Nat) : Bool := decide (i' ≠ c ∧ c ≤ k' ∧ (i' < i ∨ (i' = i ∧ k' < k)))
def stF (M : Nat → Nat → Rat) (c i k : Nat) : Nat → Nat → Rat := fun i' k' => if dnS c i k i' k' = true then M i' k' - M i' c / M c c * M c k' else M i' k'
def lamS : Nat → Nat
  | 0 => 46
  | c + 1 => 8 * lamS c + 42
def stL (c i k : Nat) : Nat → Nat → Nat := fun i' k' => if dnS c i k i' k' = true then lamS (c + 1) else lamS c
def elS (M : Nat → Nat → Rat) (n : Nat) : Nat → Nat → Nat → Rat
  | 0 => M
  | c + 1 => stF (elS M n c) c n c
theorem lamS_bd (c : Nat) (h : c ≤ 2) : 46 ≤ lamS c ∧ lamS c ≤ 10000 := by
  rcases (by omega : c = 0 ∨ c = 1 ∨ c = 2) with rfl | rfl | rfl <;> decide
theorem lamS_succ (c : Nat) : lamS (c + 1) = 8 * lamS c + 42 := rfl
theorem dnS_no {c i k i' k' : Nat} (h : ¬ (i' ≠ c ∧ c ≤ k' ∧ (i' < i ∨ (i' = i ∧ k' < k)))) : dnS c i k i' k' = false := decide_eq_false h
theorem dnS_yes {c i k i' k' : Nat} (h : i' ≠ c ∧ c ≤ k' ∧ (i' < i ∨ (i' = i ∧ k' < k))) : dnS c i k i' k' = true := decide_eq_true h
theorem st_no (M : Nat → Nat → Rat) {c i k i' k' : Nat} (h : ¬ (i' ≠ c ∧ c ≤ k' ∧ (i' < i ∨ (i' = i ∧ k' < k)))) : stF M c i k i' k' = M i' k' ∧ stL c i k i' k' = lamS c := by
  unfold stF stL
  rw [dnS_no h]
  exact ⟨rfl, rfl⟩
theorem st_yes (M : Nat → Nat → Rat) {c i k i' k' : Nat} (h : i' ≠ c ∧ c ≤ k' ∧ (i' < i ∨ (i' = i ∧ k' < k))) : stF M c i k i' k' = M i' k' - M i' c / M c c * M c k' ∧ stL c i k i' k' = lamS (c + 1) := by
  unfold stF stL
  rw [dnS_yes h]
  exact ⟨rfl, rfl⟩
theorem st_same (M : Nat → Nat → Rat) {c i k j l i' k' : Nat} (h : (i' ≠ c ∧ c ≤ k' ∧ (i' < i ∨ (i' = i ∧ k' < k))) ↔ (i' ≠ c ∧ c ≤ k' ∧ (i' < j ∨ (i' = j ∧ k' < l)))) : stL c i k i' k' ≤ stL c j l i' k' ∧ stF M c i k i' k' = stF M c j l i' k' := by
  by_cases h1 : i' ≠ c ∧ c ≤ k' ∧ (i' < i ∨ (i' = i ∧ k' < k))
  · rw [(st_yes M h1).1, (st_yes M h1).2, (st_yes M (h.1 h1)).1, (st_yes M (h.1 h1)).2]
    exact ⟨Nat.le_refl _, rfl⟩
  · rw [(st_no M h1).1, (st_no M h1).2, (st_no M (fun h2 => h1 (h.2 h2))).1, (st_no M (fun h2 => h1 (h.2 h2))).2]
    exact ⟨Nat.le_refl _, rfl⟩
theorem stL_le (c i k i' k' : Nat) : stL c i k i' k' ≤ lamS (c + 1) := by
  unfold stL
  split
  · exact Nat.le_refl _
  · rw [lamS_succ]; omega
theorem sign_ne {q : Rat} (h : q ≠ 0) : (q.num.sign == 0) = false := by
  have : q.num ≠ 0 := fun e => h (Rat.num_eq_zero.1 e)
  simpa using this
theorem sign_eq {q : Rat} (h : q = 0) : (q.num.sign == 0) = true := by subst h; decide
/-- A row whose element of the column is 0 is as it was. -/
theorem st_zero (M : Nat → Nat → Rat) {c i : Nat} (h : M i c = 0) (i' k' : Nat) : stL c i c i' k' ≤ stL c (i + 1) c i' k' ∧ stF M c i c i' k' = stF M c (i + 1) c i' k' := by
  by_cases hi : i' = i
  · subst hi
    rw [(st_no M (i := i') (k := c) (k' := k') (by omega)).1, (st_no M (i := i') (k := c) (k' := k') (by omega)).2]
    by_cases h1 : i' ≠ c ∧ c ≤ k' ∧ (i' < i' + 1 ∨ (i' = i' + 1 ∧ k' < c))
    · rw [(st_yes M h1).1, (st_yes M h1).2, h, lamS_succ]
      exact ⟨by omega, by grind⟩
    · rw [(st_no M h1).1, (st_no M h1).2]
      exact ⟨Nat.le_refl _, rfl⟩
  · exact st_same M (by omega)

/-- One more element of a row is changed. -/
theorem st_next (M : Nat → Nat → Rat) {c j k : Nat} (hj : j ≠ c) (hk : c ≤ k) (i' k' : Nat) :
    (if i' = j ∧ k' = k then lamS (c + 1) else stL c j k i' k') ≤ stL c j (k + 1) i' k' ∧ (if i' = j ∧ k' = k then M j k - M j c / M c c * M c k else stF M c j k i' k') = stF M c j (k + 1) i' k' := by
  by_cases h : i' = j ∧ k' = k
  · obtain ⟨rfl, rfl⟩ := h
    rw [if_pos ⟨rfl, rfl⟩, if_pos ⟨rfl, rfl⟩, (st_yes M (c := c) (i := i') (k := k' + 1) (i' := i') (k' := k') (by omega)).1, (st_yes M (c := c) (i := i') (k := k' + 1) (i' := i') (k' := k') (by omega)).2]
    exact ⟨Nat.le_refl _, rfl⟩
  · rw [if_neg h, if_neg h]
    exact st_same M (by omega)
theorem kept_allocS {W w : World} {o : Obj} {G : Prop} (h : Below W.heap.size W w) (k : Below w.heap.size w (w.alloc o) → Below W.heap.size W (w.alloc o) → (w.alloc o).heap[w.heap.size]? = some o → W.heap.size ≤ w.heap.size → G) : Kept W (w.alloc o) ∧ G :=
  have hA : Below w.heap.size w (w.alloc o) := (Below.refl _ _).alloc (Nat.le_refl _) _
  have h2 := h.trans (hA.mono h.size)
  ⟨kept_of h2, k hA h2 (alloc_new _ _) h.size⟩
theorem ratFrame {w w' : World} {s : Int} {a : Option Addr} {n c : Nat} {s' : Int} {a' : Option Addr} {n' c' : Nat} {q : Rat} (h : RatV w s a n c s' a' n' c' q) (hs : ∀ b, BlkT w b 3 → w'.heap[b]? = w.heap[b]?) : RatV w' s a n c s' a' n' c' q := ⟨h.1.frame hs, h.2.frame hs⟩

theorem packS {V U : World} {r B0 B g n m : Nat} {bs cs : Nat → Nat} {L : Nat → Nat → Nat} {f : Nat → Nat → Rat} {w : World} {u0 u1 u2 u3 : Value} {s : Int} {a : Option Addr} {m1 c : Nat} {s' : Int} {a' : Option Addr} {m' c' : Nat} {x : Rat} (p : U.heap[r]? = some (.cells #[u0, u1, u2, u3] 80)) (h : RatV U s a m1 c s' a' m' c' x) (hk : Below V.heap.size V U) (hr : V.heap.size ≤ r) (hM : MQ V B0 g n m bs cs L f) (hbr : Below B w V) (hB : B ≤ V.heap.size) :
    ∃ b X, ((((U.setCell ⟨r, 0, none⟩ (.int .i64 s)).setCell ⟨r, 1, none⟩ (.slice a m1 c)).setCell ⟨r, 2, none⟩ (.int .i64 s')).setCell ⟨r, 3, none⟩ (.slice a' m' c')) = X ∧ r = b ∧ MQ X B0 g n m bs cs L f ∧ X.heap[b]? = some (.cells #[.int .i64 s, .slice a m1 c, .int .i64 s', .slice a' m' c'] 80) ∧ RatV X s a m1 c s' a' m' c' x ∧ Below B w X ∧ (∀ i, i < n → bs i ≠ b) ∧ B ≤ b := by
  obtain ⟨X4, W1, W2⟩ := ratFin p h.1 h.2
  have hne : ∀ i, i < n → bs i ≠ r := fun i hi => by have := (hM.2.1 i hi).2.blk.lt; omega
  exact ⟨r, _, rfl, rfl, (hM.keep hk).beside hne ⟨_, p⟩ 0 _ _ _ _, X4, ⟨W1, W2⟩, below4 (hbr.trans (hk.mono hB)) (by omega), hne, by omega⟩

set_option maxRecDepth 100000 in
set_option maxHeartbeats 8000000 in
theorem Solve_any (g0 n cg B0 : Nat) (bs cs : Nat → Nat) (f : Nat → Nat → Rat) (w : World) (h : MQ w B0 g0 n (n + 1) bs cs (fun _ _ => 46) f) (hn1 : 0 < n) (hn : n ≤ 2) (hp : ∀ c, c < n → elS f n c c c ≠ 0) (hq : ∀ c, c < n → elS f n n c c ≠ 0) :
    Calls Tryz.prog 66 #[.slice (some ⟨g0, 0, none⟩) n cg] w fun e w' => ∃ a' c' B, e = .returned (.tuple #[.slice a' n c', .bool true]) ∧ RowQ w' B a' n c' 40000 ((List.range n).map (fun c => elS f n n c n / elS f n n c c)) ∧ w.heap.size ≤ B ∧ Below w.heap.size w w' := by
  have HP := Lib.hid hp
  have HQ := Lib.hid hq
  clear hp hq
  go_enter Tryz.func66, Tryz.ntmps66
  go_wp2_with fail
  go_loopw [6, 5] (fun z l wr => ∃ (i c' : Nat) (a' : Option Addr) (bs' cs' : Nat → Nat), z = .int .i64 (i : Int) ∧ l = .slice a' i c' ∧ i ≤ n ∧ OwM wr w.heap.size a' i c' (n + 1) bs' cs' (fun _ _ => 46) f ∧ Below w.heap.size w wr) (fun z _ _ => n - (intOf z).toNat)
  case atStart => exact ⟨0, 0, none, bs, cs, rfl, rfl, by omega, OwM.nil _ _ _ _ _ _ _, Below.refl _ _⟩
  case round =>
    obtain ⟨i, c', a', bs', cs', rfl, rfl, hi0, hown, hbr⟩ := hrel
    by_cases hlt : i < n
    · have hM := h.keep hbr
      obtain ⟨g1, hrow⟩ := hM.2.1 i hlt
      have hi1 : (i : Int) < (n : Int) := by omega
      have hi2 : (0 : Int) ≤ (i : Int) := by omega
      clear hM
      have hsz := hbr.size
      have hlo := fun j hj => (hown.2.1 j hj).blk.lt
      have g1' : (wr.alloc (.cells #[] 80)).cell? ⟨g0, i, none⟩ = some (.slice (some ⟨bs i, 0, none⟩) (n + 1) (cs i)) := cell_keep g1 ((Below.refl _ _).alloc (Nat.le_refl _) _)
      go_wp2_with (first | (at_builtin; refine appM w1 rfl rfl _ _ rfl (hown.keep hb1) (hr1.weak (by omega)) (fun j hj e => by have := hlo j hj; have := hr1.lo; omega) rfl rfl (by omega) (by have := hb1.size; omega) ?_; intro a3 c3 w3 ho3 hb3 hs3) | (at_builtin; refine appC wr rfl rfl _ _ rfl hrow rfl rfl (by omega) (by omega) ?_; intro b1 c1 w1 hr1 hb1))
      go_roundw
      case rel => exact ⟨i + 1, c3, a3, _, _, by go_num, rfl, by omega, ho3, (hbr.trans (hb1.mono (by omega))).trans hb3⟩
      case measure => simp [intOf]; omega
    · obtain rfl : i = n := by omega
      obtain ⟨g, rfl, hg, hM⟩ := hown.mq hn1
      clear h hown hlt
      go_wp2_with fail
      have hM0 : MQ wr w.heap.size g i (i + 1) bs' cs' (fun _ _ => lamS 0) (elS f i 0) := hM
      clear hM
      rename World => wa
      go_loopw [7] (fun z wr => ∃ c : Nat, z = .int .i64 (c : Int) ∧ c ≤ i ∧ MQ wr w.heap.size g i (i + 1) bs' cs' (fun _ _ => lamS c) (elS f i c) ∧ Below w.heap.size w wr) (fun z _ => i - (intOf z).toNat)
      case atStart => exact ⟨0, rfl, by omega, hM0, hbr⟩
      case round =>
        obtain ⟨c, rfl, hc0, hM, hbr⟩ := hrel
        clear hM0
        by_cases hlt : c < i
        · have hc1 : (c : Int) < (i : Int) := by omega
          have hc2 : (0 : Int) ≤ (c : Int) := by omega
          have hc3 : ((c : Int) == (i : Int)) = false := by simp; omega
          obtain ⟨k1, k2⟩ := hM.2.1 c hlt
          obtain ⟨s1, a1, n1, c1, s2, a2, n2, c2, g0', g1, g2, g3, gl1, gl2, gR⟩ := k2.at_ c (by omega)
          have hsg := sign_ne (HP.out c hlt)
          obtain ⟨q, hqq⟩ : ∃ v, elS f i c c c = v := ⟨_, rfl⟩
          rw [hqq] at gR hsg
          have HQQ := Lib.hid hqq
          clear hqq
          rename World => wb
          go_wp2_with fail
          go_loopw [8] (fun z wz => z = .int .i64 (c : Int) ∧ wz = wb) (fun _ _ => 0)
          case atStart => exact ⟨rfl, rfl⟩
          case round =>
            obtain ⟨rfl, rfl⟩ := hrel
            go_wp2_with fail
            refine (RatioSign_any s1 a1 n1 c1 s2 a2 n2 c2 q _ gR).mono ?_
            rintro e w5 ⟨rfl, hs⟩
            replace hM := hM.keep hs
            replace k1 := cell_keep k1 hs
            replace hbr := hbr.trans (hs.mono hbr.size)
            clear hs gR g0' g1 g2 g3 gl1 gl2 k2
            go_wp2_with fail
            refine Calmly.wp_region_mix 14 (.fl 0 <| .fl 1 <| .fl 2 <| .fl 3 <| .fl 4 <| .fl 5 <| .fl 6 <| .fl 7 <| .fl 8 <| .fl 9 <| .fl 10 <| .fl 11 <| .fl 12 <| .eff 13 <| .tail [14, 15]) (by kernel_rfl) (by kernel_rfl) ?_
            replace hM := hM.keep (Below.refl _ _).drew
            replace k1 := cell_keep k1 (Below.refl _ _).drew
            replace hbr := hbr.drew
            generalize w5.drew = V at *
            have hk := Below.refl V.heap.size V
            have hfz : V.frozen? ⟨g, c, none⟩ = false := hM.1.free _
            have hst := setCell_same k1
            go_wp2_with (first | ((with_reducible refine Calmly.is_fl ?_); refine Calmly.mix_fl rfl ?_ (fun _ _ => ?_); (first | exact .move _ | exact .load _ _ | exact .fieldAddr _ _ _ (by kernel_rfl) | exact .assign _ | exact .binOp _ _ _ _ _ rfl | exact .indexAddr _ _ _ | exact .len _ _ (by kernel_rfl) | exact .field _ _ _ | exact .extract _ _ | exact .pick _ _ _ | exact .build _ _ | exact .slice _ _ _ _ _ | exact .unOp _ _ _ rfl | exact .index _ _ _ | exact .max _ _ _ rfl rfl | exact .min _ _ _ rfl rfl)) | ((with_reducible refine Calmly.is_gl ?_); refine Calmly.mix_gl rfl rfl rfl ?_; first | ((first | with_reducible refine Calmly.gl_tt ?_ (fun _ _ => ?_) | with_reducible refine Calmly.gl_ff ?_ (fun _ _ => ?_)); (first | exact .move _ | exact .load _ _ | exact .fieldAddr _ _ _ (by kernel_rfl) | exact .assign _ | exact .binOp _ _ _ _ _ rfl | exact .indexAddr _ _ _ | exact .len _ _ (by kernel_rfl) | exact .field _ _ _ | exact .extract _ _ | exact .pick _ _ _ | exact .build _ _ | exact .slice _ _ _ _ _ | exact .unOp _ _ _ rfl | exact .index _ _ _ | exact .max _ _ _ rfl rfl | exact .min _ _ _ rfl rfl)) | with_reducible refine Calmly.gl_tf (fun _ _ => ?_) | with_reducible refine Calmly.gl_ft (fun _ _ => ?_)) | ((with_reducible refine Calmly.is_eff ?_); refine Calmly.mix_eff rfl (fun _ _ => ?_)) | ((with_reducible refine Calmly.is_gf ?_); refine Calmly.mix_gf rfl rfl rfl ?_; first | with_reducible refine Calmly.gf_tt (fun _ _ => ?_) | with_reducible refine Calmly.gf_ff (fun _ _ => ?_) | with_reducible refine Calmly.gf_tf (kept_of hk) (fun _ _ => ?_) | with_reducible refine Calmly.gf_ft (kept_of hk) (fun _ _ => ?_)) | ((with_reducible refine Calmly.is_tail ?_); first | refine Calmly.mix_tail_nil ?_ | refine Calmly.mix_tail rfl (fun _ _ => ?_)) | ((with_reducible refine Calmly.is_kept ?_); refine ⟨kept_of hk, ?_⟩) | (with_reducible refine Calmly.mix_alt ?_ ?_))
            clear hst hfz hsg hk k1
            generalize hMM : elS f i c = M at hM HQQ
            have HMM := Lib.hid hMM
            have HQQ2 := Lib.hid (show M c c = q from HQQ.out)
            clear hMM
            rename_i u30' u31' u32' u33' u34' u35'
            go_loopw [9] (fun z wr => ∃ j : Nat, z = .int .i64 (j : Int) ∧ j ≤ i ∧ MQ wr w.heap.size g i (i + 1) bs' cs' (stL c j c) (stF M c j c) ∧ Below w.heap.size w wr) (fun z _ => i - (intOf z).toNat)
            case atStart =>
              refine ⟨0, rfl, by omega, hM.congr (fun i' hi' k' hk' => ?_), hbr⟩
              have h9 := st_no M (c := c) (i := 0) (k := c) (i' := i') (k' := k') (by omega)
              rw [h9.1, h9.2]
              exact ⟨Nat.le_refl _, rfl⟩
            case round =>
              obtain ⟨j, rfl, hj0, hM, hbr⟩ := hrel
              by_cases hjl : j < i
              · have hj1 : (j : Int) < (i : Int) := by omega
                have hj2 : (0 : Int) ≤ (j : Int) := by omega
                by_cases hjc : j = c
                · have hjc' : ((j : Int) == (c : Int)) = true := by simp; omega
                  have HJC := Lib.hid hjc
                  clear hjc
                  go_wp2_with fail
                  go_roundw
                  case rel => exact ⟨j + 1, by go_num, by omega, hM.congr (fun i' hi' k' hk' => st_same _ (by have := HJC.out; omega)), hbr⟩
                  case measure => simp [intOf]; omega
                · have hjc' : ((j : Int) == (c : Int)) = false := by simp; omega
                  obtain ⟨gj, rj⟩ := hM.2.1 j hjl
                  obtain ⟨gc, rc⟩ := hM.2.1 c hlt
                  have e1 := st_no M (c := c) (i := j) (k := c) (i' := j) (k' := c) (by omega)
                  have e2 := st_no M (c := c) (i := j) (k := c) (i' := c) (k' := c) (by omega)
                  obtain ⟨x1, y1, m1, d1, x2, y2, m2, d2, v0, v1, v2, v3, vl1, vl2, xR⟩ := rj.at_ c (by omega)
                  obtain ⟨p1, o1, m3, d3, p2, o2, m4, d4, t0, t1, t2, t3, tl1, tl2, pR⟩ := rc.at_ c (by omega)
                  rw [e1.1] at xR
                  rw [e2.1, HQQ.out] at pR
                  rw [e1.2] at vl1 vl2
                  rw [e2.2] at tl1 tl2
                  clear e1 e2 rj rc
                  have hqz : q ≠ 0 := by rw [← HQQ.out, ← HMM.out]; exact HP.out c hlt
                  obtain ⟨x, hx⟩ : ∃ v, M j c = v := ⟨_, rfl⟩
                  rw [hx] at xR
                  have HX := Lib.hid hx
                  have HQZ := Lib.hid hqz
                  clear hx hqz
                  go_wp2_with fail
                  refine (RatioSign_any x1 y1 m1 d1 x2 y2 m2 d2 x _ xR).mono ?_
                  rintro e w6 ⟨rfl, hs⟩
                  replace hM := hM.keep hs
                  replace gj := cell_keep gj hs
                  replace gc := cell_keep gc hs
                  replace v0 := cell_keep v0 hs
                  replace v1 := cell_keep v1 hs
                  replace v2 := cell_keep v2 hs
                  replace v3 := cell_keep v3 hs
                  replace t0 := cell_keep t0 hs
                  replace t1 := cell_keep t1 hs
                  replace t2 := cell_keep t2 hs
                  replace t3 := cell_keep t3 hs
                  replace xR := xR.keep hs
                  replace pR := pR.keep hs
                  replace hbr := hbr.trans (hs.mono hbr.size)
                  clear hs
                  by_cases hz : x = 0
                  · have hsg := sign_eq hz
                    have hxz : M j c = 0 := by rw [HX.out]; exact hz
                    have HXZ := Lib.hid hxz
                    clear hz hxz
                    go_wp2_with fail
                    go_roundw
                    case rel => exact ⟨j + 1, by go_num, by omega, hM.congr (fun i' hi' k' hk' => st_zero M HXZ.out i' k'), hbr⟩
                    case measure => simp [intOf]; omega
                  · have hsg := sign_ne hz
                    clear hz
                    have hll := lamS_bd c (by omega)
                    go_wp2_with fail
                    refine Calmly.wp_region_mix 16 (.fl 0 <| .fl 1 <| .fl 2 <| .fl 3 <| .fl 4 <| .fl 5 <| .fl 6 <| .fl 7 <| .fl 8 <| .fl 9 <| .fl 10 <| .fl 11 <| .fl 12 <| .fl 13 <| .alt 14 (.eff 15 <| .tail [16]) (.eff 15 (.eff 14 <| .tail [16]))) (by kernel_rfl) (by kernel_rfl) ?_
                    replace hM := hM.keep (Below.refl _ _).drew
                    replace gj := cell_keep gj (Below.refl _ _).drew
                    replace gc := cell_keep gc (Below.refl _ _).drew
                    replace v0 := cell_keep v0 (Below.refl _ _).drew
                    replace v1 := cell_keep v1 (Below.refl _ _).drew
                    replace v2 := cell_keep v2 (Below.refl _ _).drew
                    replace v3 := cell_keep v3 (Below.refl _ _).drew
                    replace t0 := cell_keep t0 (Below.refl _ _).drew
                    replace t1 := cell_keep t1 (Below.refl _ _).drew
                    replace t2 := cell_keep t2 (Below.refl _ _).drew
                    replace t3 := cell_keep t3 (Below.refl _ _).drew
                    replace xR := xR.keep (Below.refl _ _).drew
                    replace pR := pR.keep (Below.refl _ _).drew
                    replace hbr := hbr.drew
                    generalize w6.drew = V at *
                    have hk := Below.refl V.heap.size V
                    go_wp2_with (first | ((with_reducible refine Calmly.is_fl ?_); refine Calmly.mix_fl rfl ?_ (fun _ _ => ?_); (first | exact .move _ | exact .load _ _ | exact .fieldAddr _ _ _ (by kernel_rfl) | exact .assign _ | exact .binOp _ _ _ _ _ rfl | exact .indexAddr _ _ _ | exact .len _ _ (by kernel_rfl) | exact .field _ _ _ | exact .extract _ _ | exact .pick _ _ _ | exact .build _ _ | exact .slice _ _ _ _ _ | exact .unOp _ _ _ rfl | exact .index _ _ _ | exact .max _ _ _ rfl rfl | exact .min _ _ _ rfl rfl)) | ((with_reducible refine Calmly.is_gl ?_); refine Calmly.mix_gl rfl rfl rfl ?_; first | ((first | with_reducible refine Calmly.gl_tt ?_ (fun _ _ => ?_) | with_reducible refine Calmly.gl_ff ?_ (fun _ _ => ?_)); (first | exact .move _ | exact .load _ _ | exact .fieldAddr _ _ _ (by kernel_rfl) | exact .assign _ | exact .binOp _ _ _ _ _ rfl | exact .indexAddr _ _ _ | exact .len _ _ (by kernel_rfl) | exact .field _ _ _ | exact .extract _ _ | exact .pick _ _ _ | exact .build _ _ | exact .slice _ _ _ _ _ | exact .unOp _ _ _ rfl | exact .index _ _ _ | exact .max _ _ _ rfl rfl | exact .min _ _ _ rfl rfl)) | with_reducible refine Calmly.gl_tf (fun _ _ => ?_) | with_reducible refine Calmly.gl_ft (fun _ _ => ?_)) | ((with_reducible refine Calmly.is_eff ?_); refine Calmly.mix_eff rfl (fun _ _ => ?_)) | ((with_reducible refine Calmly.is_gf ?_); refine Calmly.mix_gf rfl rfl rfl ?_; first | with_reducible refine Calmly.gf_tt (fun _ _ => ?_) | with_reducible refine Calmly.gf_ff (fun _ _ => ?_) | with_reducible refine Calmly.gf_tf (kept_of hk) (fun _ _ => ?_) | with_reducible refine Calmly.gf_ft (kept_of hk) (fun _ _ => ?_)) | ((with_reducible refine Calmly.is_kept ?_); refine ⟨kept_of hk, ?_⟩) | (with_reducible refine Calmly.mix_alt ?_ ?_) | (go_at_call 89; refine (RatioDiv_any x1 y1 m1 d1 x2 y2 m2 d2 p1 o1 m3 d3 p2 o2 m4 d4 (lamS c) x q _ (xR.keep hk) (pR.keep hk) vl1 vl2 tl1 tl2 (by omega) HQZ.out).mono ?_; rintro e w' ⟨⟨ds, da, dn, dc, ds', da', dn', dc', rfl, dh, dh', rD⟩, hs⟩; replace hk := step_of hk hs; (try replace p8 := blk_keep p8 hs); clear hs) | (refine kept_allocS hk (fun hs hk' hblk hge => ?_); generalize World.alloc _ _ = W' at hs hk' hblk ⊢; replace hk := hk'; clear hk'; (try replace rD := rD.keep hs); have p8 := hblk; clear hs hblk))
                    all_goals
                      have z0 := cell_block p8 0
                      have z1 := cell_block p8 1
                      have z2 := cell_block p8 2
                      have z3 := cell_block p8 3
                      have z4 := frozen_block p8 0
                      have z5 := frozen_block p8 1
                      have z6 := frozen_block p8 2
                      have z7 := frozen_block p8 3
                      clear v0 v1 v2 v3 t0 t1 t2 t3 xR pR gj gc
                    go_wp2_with (first | ((with_reducible refine Calmly.is_fl ?_); refine Calmly.mix_fl rfl ?_ (fun _ _ => ?_); (first | exact .move _ | exact .load _ _ | exact .fieldAddr _ _ _ (by kernel_rfl) | exact .assign _ | exact .binOp _ _ _ _ _ rfl | exact .indexAddr _ _ _ | exact .len _ _ (by kernel_rfl) | exact .field _ _ _ | exact .extract _ _ | exact .pick _ _ _ | exact .build _ _ | exact .slice _ _ _ _ _ | exact .unOp _ _ _ rfl | exact .index _ _ _ | exact .max _ _ _ rfl rfl | exact .min _ _ _ rfl rfl)) | ((with_reducible refine Calmly.is_gl ?_); refine Calmly.mix_gl rfl rfl rfl ?_; first | ((first | with_reducible refine Calmly.gl_tt ?_ (fun _ _ => ?_) | with_reducible refine Calmly.gl_ff ?_ (fun _ _ => ?_)); (first | exact .move _ | exact .load _ _ | exact .fieldAddr _ _ _ (by kernel_rfl) | exact .assign _ | exact .binOp _ _ _ _ _ rfl | exact .indexAddr _ _ _ | exact .len _ _ (by kernel_rfl) | exact .field _ _ _ | exact .extract _ _ | exact .pick _ _ _ | exact .build _ _ | exact .slice _ _ _ _ _ | exact .unOp _ _ _ rfl | exact .index _ _ _ | exact .max _ _ _ rfl rfl | exact .min _ _ _ rfl rfl)) | with_reducible refine Calmly.gl_tf (fun _ _ => ?_) | with_reducible refine Calmly.gl_ft (fun _ _ => ?_)) | ((with_reducible refine Calmly.is_eff ?_); refine Calmly.mix_eff rfl (fun _ _ => ?_)) | ((with_reducible refine Calmly.is_gf ?_); refine Calmly.mix_gf rfl rfl rfl ?_; first | with_reducible refine Calmly.gf_tt (fun _ _ => ?_) | with_reducible refine Calmly.gf_ff (fun _ _ => ?_) | with_reducible refine Calmly.gf_tf (kept_of hk) (fun _ _ => ?_) | with_reducible refine Calmly.gf_ft (kept_of hk) (fun _ _ => ?_)) | ((with_reducible refine Calmly.is_tail ?_); first | refine Calmly.mix_tail_nil ?_ | refine Calmly.mix_tail rfl (fun _ _ => ?_)) | ((with_reducible refine Calmly.is_kept ?_); refine ⟨kept_of hk, ?_⟩) | (with_reducible refine Calmly.mix_alt ?_ ?_))
                    all_goals
                      obtain ⟨r, X, e2, e1, hMX, hX, rX, hbX, hnX, hrX⟩ := packS p8 rD hk (by omega) hM hbr hbr.size
                      rw [e2, e1]
                      clear e1 e2 p8 rD hk z0 z1 z2 z3 z4 z5 z6 z7 hM hbr
                      have hrl := blk_lt hX
                    all_goals
                      clear hge
                      obtain ⟨y, hy⟩ : ∃ v, x / q = v := ⟨_, rfl⟩
                      rw [hy] at rX
                      have HY := Lib.hid hy
                      clear hy
                      go_loopw [11] (fun z wr => ∃ k : Nat, z = .int .i64 (k : Int) ∧ c ≤ k ∧ k ≤ i + 1 ∧ MQ wr w.heap.size g i (i + 1) bs' cs' (stL c j k) (stF M c j k) ∧ wr.heap[r]? = some (.cells #[.int .i64 ds, .slice da dn dc, .int .i64 ds', .slice da' dn' dc'] 80) ∧ RatV wr ds da dn dc ds' da' dn' dc' y ∧ Below w.heap.size w wr) (fun z _ => i + 1 - (intOf z).toNat)
                      case atStart => exact ⟨c, rfl, by omega, by omega, hMX, hX, rX, hbX⟩
                      case round =>
                        obtain ⟨k, rfl, hkc, hki, hM, hX, rX, hbr⟩ := hrel
                        by_cases hkl : k < i + 1
                        · have hk1 : (k : Int) ≤ (i : Int) := by omega
                          have hk2 : (0 : Int) ≤ (k : Int) := by omega
                          have hk3 : (k : Int) < ((i + 1 : Nat) : Int) := by omega
                          obtain ⟨gj, rj⟩ := hM.2.1 j hjl
                          obtain ⟨gc, rc⟩ := hM.2.1 c hlt
                          have e1 := st_no M (c := c) (i := j) (k := k) (i' := j) (k' := k) (by omega)
                          have e2 := st_no M (c := c) (i := j) (k := k) (i' := c) (k' := k) (by omega)
                          obtain ⟨x1, y1, m1, d1, x2, y2, m2, d2, v0, v1, v2, v3, vl1, vl2, xR⟩ := rj.at_ k hkl
                          obtain ⟨p1, o1, m3, d3, p2, o2, m4, d4, t0, t1, t2, t3, tl1, tl2, pR⟩ := rc.at_ k hkl
                          rw [e1.1] at xR
                          rw [e2.1] at pR
                          rw [e1.2] at vl1 vl2
                          rw [e2.2] at tl1 tl2
                          clear e1 e2 rc
                          have fz := fun o => rj.free o
                          have f0 := cell_block hX 0
                          have f1 := cell_block hX 1
                          have f2 := cell_block hX 2
                          have f3 := cell_block hX 3
                          have hrl := blk_lt hX
                          have hjr := hM.2.1 j hjl |>.2.blk.lt
                          go_wp2_with fail
                          refine Calmly.wp_region_mix 22 (.fl 0 <| .fl 1 <| .fl 2 <| .fl 3 <| .fl 4 <| .fl 5 <| .fl 6 <| .fl 7 <| .fl 8 <| .fl 9 <| .fl 10 <| .fl 11 <| .fl 12 <| .fl 13 <| .fl 14 <| .fl 15 <| .fl 16 <| .fl 17 <| .fl 18 <| .fl 19 <| .eff 20 <| .eff 21 <| .tail [22, 23]) (by kernel_rfl) (by kernel_rfl) ?_
                          replace hM := hM.keep (Below.refl _ _).drew
                          replace gj := cell_keep gj (Below.refl _ _).drew
                          replace gc := cell_keep gc (Below.refl _ _).drew
                          replace v0 := cell_keep v0 (Below.refl _ _).drew
                          replace v1 := cell_keep v1 (Below.refl _ _).drew
                          replace v2 := cell_keep v2 (Below.refl _ _).drew
                          replace v3 := cell_keep v3 (Below.refl _ _).drew
                          replace t0 := cell_keep t0 (Below.refl _ _).drew
                          replace t1 := cell_keep t1 (Below.refl _ _).drew
                          replace t2 := cell_keep t2 (Below.refl _ _).drew
                          replace t3 := cell_keep t3 (Below.refl _ _).drew
                          replace f0 := cell_keep f0 (Below.refl _ _).drew
                          replace f1 := cell_keep f1 (Below.refl _ _).drew
                          replace f2 := cell_keep f2 (Below.refl _ _).drew
                          replace f3 := cell_keep f3 (Below.refl _ _).drew
                          replace xR := xR.keep (Below.refl _ _).drew
                          replace pR := pR.keep (Below.refl _ _).drew
                          replace rX := rX.keep (Below.refl _ _).drew
                          replace hX := blk_keep hX (Below.refl _ _).drew
                          replace hbr := hbr.drew
                          clear fz rj hrl hjr
                          generalize World.drew _ = V2 at *
                          have hk := Below.refl V2.heap.size V2
                          go_wp2_with (first | ((with_reducible refine Calmly.is_fl ?_); refine Calmly.mix_fl rfl ?_ (fun _ _ => ?_); (first | exact .move _ | exact .load _ _ | exact .fieldAddr _ _ _ (by kernel_rfl) | exact .assign _ | exact .binOp _ _ _ _ _ rfl | exact .indexAddr _ _ _ | exact .len _ _ (by kernel_rfl) | exact .field _ _ _ | exact .extract _ _ | exact .pick _ _ _ | exact .build _ _ | exact .slice _ _ _ _ _ | exact .unOp _ _ _ rfl | exact .index _ _ _ | exact .max _ _ _ rfl rfl | exact .min _ _ _ rfl rfl)) | ((with_reducible refine Calmly.is_gl ?_); refine Calmly.mix_gl rfl rfl rfl ?_; first | ((first | with_reducible refine Calmly.gl_tt ?_ (fun _ _ => ?_) | with_reducible refine Calmly.gl_ff ?_ (fun _ _ => ?_)); (first | exact .move _ | exact .load _ _ | exact .fieldAddr _ _ _ (by kernel_rfl) | exact .assign _ | exact .binOp _ _ _ _ _ rfl | exact .indexAddr _ _ _ | exact .len _ _ (by kernel_rfl) | exact .field _ _ _ | exact .extract _ _ | exact .pick _ _ _ | exact .build _ _ | exact .slice _ _ _ _ _ | exact .unOp _ _ _ rfl | exact .index _ _ _ | exact .max _ _ _ rfl rfl | exact .min _ _ _ rfl rfl)) | with_reducible refine Calmly.gl_tf (fun _ _ => ?_) | with_reducible refine Calmly.gl_ft (fun _ _ => ?_)) | ((with_reducible refine Calmly.is_eff ?_); refine Calmly.mix_eff rfl (fun _ _ => ?_)) | ((with_reducible refine Calmly.is_gf ?_); refine Calmly.mix_gf rfl rfl rfl ?_; first | with_reducible refine Calmly.gf_tt (fun _ _ => ?_) | with_reducible refine Calmly.gf_ff (fun _ _ => ?_) | with_reducible refine Calmly.gf_tf (kept_of hk) (fun _ _ => ?_) | with_reducible refine Calmly.gf_ft (kept_of hk) (fun _ _ => ?_)) | ((with_reducible refine Calmly.is_kept ?_); refine ⟨kept_of hk, ?_⟩) | (with_reducible refine Calmly.mix_alt ?_ ?_) | (go_at_call 40; refine (RatioMul_any ds da dn dc ds' da' dn' dc' p1 o1 m3 d3 p2 o2 m4 d4 (2 * lamS c + 6) y _ V2 rX pR dh dh' (by omega) (by omega) (by omega)).mono ?_; rintro e w7 ⟨⟨ks, ka, kn, kc, ks', ka', kn', kc', rfl, kh, kh', rK⟩, hs⟩; replace hk := step_of hk hs; have xR7 := xR.keep hs; clear hs) | (go_at_call 46; refine (RatioSub_any x1 y1 m1 d1 x2 y2 m2 d2 ks ka kn kc ks' ka' kn' kc' (4 * lamS c + 18) _ _ w7 xR7 rK (by omega) (by omega) (by omega) (by omega) (by omega)).mono ?_; rintro e w8 ⟨⟨ss, sa, sn, sc, ss', sa', sn', sc', rfl, sh, sh', rS⟩, hs⟩; replace hk := step_of hk hs; clear hs))
                          have hM8 := hM.keep hk
                          have hX8 := blk_keep hX hk
                          have rX8 := rX.keep hk
                          have hb8 := hbr.trans (hk.mono hbr.size)
                          have z0 := cell_keep v0 hk
                          have z1 := cell_keep v1 hk
                          have z2 := cell_keep v2 hk
                          have z3 := cell_keep v3 hk
                          have fz := fun o => (hM8.2.1 j hjl).2.free o
                          have hlo := (hM8.2.1 j hjl).2.lo
                          have hT8 := (hM8.2.1 j hjl).2.blk
                          go_wp2_with (first | ((with_reducible refine Calmly.is_fl ?_); refine Calmly.mix_fl rfl ?_ (fun _ _ => ?_); (first | exact .move _ | exact .load _ _ | exact .fieldAddr _ _ _ (by kernel_rfl) | exact .assign _ | exact .binOp _ _ _ _ _ rfl | exact .indexAddr _ _ _ | exact .len _ _ (by kernel_rfl) | exact .field _ _ _ | exact .extract _ _ | exact .pick _ _ _ | exact .build _ _ | exact .slice _ _ _ _ _ | exact .unOp _ _ _ rfl | exact .index _ _ _ | exact .max _ _ _ rfl rfl | exact .min _ _ _ rfl rfl)) | ((with_reducible refine Calmly.is_gl ?_); refine Calmly.mix_gl rfl rfl rfl ?_; first | ((first | with_reducible refine Calmly.gl_tt ?_ (fun _ _ => ?_) | with_reducible refine Calmly.gl_ff ?_ (fun _ _ => ?_)); (first | exact .move _ | exact .load _ _ | exact .fieldAddr _ _ _ (by kernel_rfl) | exact .assign _ | exact .binOp _ _ _ _ _ rfl | exact .indexAddr _ _ _ | exact .len _ _ (by kernel_rfl) | exact .field _ _ _ | exact .extract _ _ | exact .pick _ _ _ | exact .build _ _ | exact .slice _ _ _ _ _ | exact .unOp _ _ _ rfl | exact .index _ _ _ | exact .max _ _ _ rfl rfl | exact .min _ _ _ rfl rfl)) | with_reducible refine Calmly.gl_tf (fun _ _ => ?_) | with_reducible refine Calmly.gl_ft (fun _ _ => ?_)) | ((with_reducible refine Calmly.is_eff ?_); refine Calmly.mix_eff rfl (fun _ _ => ?_)) | ((with_reducible refine Calmly.is_gf ?_); refine Calmly.mix_gf rfl rfl rfl ?_; first | with_reducible refine Calmly.gf_tt (fun _ _ => ?_) | with_reducible refine Calmly.gf_ff (fun _ _ => ?_) | with_reducible refine Calmly.gf_tf (kept_of hk) (fun _ _ => ?_) | with_reducible refine Calmly.gf_ft (kept_of hk) (fun _ _ => ?_)) | ((with_reducible refine Calmly.is_tail ?_); first | refine Calmly.mix_tail_nil ?_ | refine Calmly.mix_tail rfl (fun _ _ => ?_)) | ((with_reducible refine Calmly.is_kept ?_); refine ⟨kept_of hk, ?_⟩) | (with_reducible refine Calmly.mix_alt ?_ ?_))
                          have hMS := hM8.stored hjl hkl rS (M := lamS (c + 1)) (by rw [lamS_succ]; omega) (by rw [lamS_succ]; omega)
                          have hbS := set4_below hb8 hlo (k * 4) (.int .i64 ss) (.slice sa sn sc) (.int .i64 ss') (.slice sa' sn' sc')
                          have hXS := (set4_other w8 (bs' j) (k * 4) (.int .i64 ss) (.slice sa sn sc) (.int .i64 ss') (.slice sa' sn' sc') (Ne.symm (hnX j hjl))).trans hX8
                          have rXS := ratFrame rX8 (set4_frame hT8 (k * 4) (.int .i64 ss) (.slice sa sn sc) (.int .i64 ss') (.slice sa' sn' sc'))
                          go_roundw
                          case rel =>
                            refine ⟨k + 1, by go_num, by omega, by omega, hMS.congr (fun i' hi' k' hk' => ?_), hXS, rXS, hbS⟩
                            have h9 := st_next M hjc hkc i' k'
                            rw [HX.out, HQQ2.out, HY.out] at h9
                            exact h9
                          case measure => simp [intOf]; omega
                        · obtain rfl : k = i + 1 := by omega
                          have hk1 : (i : Int) < ((i + 1 : Nat) : Int) := by omega
                          go_wp2_with fail
                          go_roundw
                          case rel => exact ⟨j + 1, by go_num, by omega, hM.congr (fun i' hi' k' hk' => st_same _ (by omega)), hbr⟩
                          case measure => simp [intOf]; omega
              · obtain rfl : j = i := by omega
                go_wp2_with fail
                go_roundw
                case rel =>
                  refine ⟨c + 1, by go_num, by omega, hM.congr (fun i' hi' k' hk' => ⟨stL_le _ _ _ _ _, ?_⟩), hbr⟩
                  rw [← HMM.out]
                  rfl
                case measure => simp [intOf]; omega
        · obtain rfl : c = i := by omega
          clear hlt hg
          go_wp2_with fail
          rename World => wc
          have hll := lamS_bd c (by omega)
          go_loopw [13, 12] (fun z l wr => ∃ (k c2 : Nat) (a2 : Option Addr), z = .int .i64 (k : Int) ∧ l = .slice a2 k c2 ∧ k ≤ c ∧ RowQ wr wc.heap.size a2 k c2 40000 ((List.range k).map (fun e => elS f c c e c / elS f c c e e)) ∧ Below wc.heap.size wc wr) (fun z _ _ => c - (intOf z).toNat)
          case atStart => exact ⟨0, 0, none, rfl, rfl, by omega, RowQ.nil _ _ _, Below.refl _ _⟩
          case round =>
            obtain ⟨k, c2', a2', rfl, rfl, hk0, hrow, hbe⟩ := hrel
            by_cases hkl : k < c
            · have hk1 : (k : Int) < (c : Int) := by omega
              have hk2 : (0 : Int) ≤ (k : Int) := by omega
              have hk3 : (c : Int) < ((c + 1 : Nat) : Int) := by omega
              have hk4 : (k : Int) < ((c + 1 : Nat) : Int) := by omega
              have hz := HQ.out k hkl
              obtain ⟨gk, rk⟩ := (hM.keep hbe).2.1 k hkl
              obtain ⟨x1, y1, m1, d1, x2, y2, m2, d2, v0, v1, v2, v3, vl1, vl2, xR⟩ := rk.at_ c (by omega)
              obtain ⟨p1, o1, m3, d3, p2, o2, m4, d4, t0, t1, t2, t3, tl1, tl2, pR⟩ := rk.at_ k (by omega)
              obtain ⟨x, hx⟩ : ∃ v, elS f c c k c = v := ⟨_, rfl⟩
              obtain ⟨q, hqq⟩ : ∃ v, elS f c c k k = v := ⟨_, rfl⟩
              rw [hx] at xR
              rw [hqq] at pR hz
              have HX := Lib.hid hx
              have HQQ := Lib.hid hqq
              have hsz := hbe.size
              clear hx hqq rk
              go_wp2_with fail
              refine Calmly.wp_region_mix 17 (.fl 0 <| .fl 1 <| .fl 2 <| .fl 3 <| .fl 4 <| .fl 5 <| .fl 6 <| .fl 7 <| .fl 8 <| .fl 9 <| .fl 10 <| .fl 11 <| .fl 12 <| .fl 13 <| .fl 14 <| .eff 15 <| .eff 16 <| .tail [17, 18]) (by kernel_rfl) (by kernel_rfl) ?_
              replace gk := cell_keep gk (Below.refl _ _).drew
              replace v0 := cell_keep v0 (Below.refl _ _).drew
              replace v1 := cell_keep v1 (Below.refl _ _).drew
              replace v2 := cell_keep v2 (Below.refl _ _).drew
              replace v3 := cell_keep v3 (Below.refl _ _).drew
              replace t0 := cell_keep t0 (Below.refl _ _).drew
              replace t1 := cell_keep t1 (Below.refl _ _).drew
              replace t2 := cell_keep t2 (Below.refl _ _).drew
              replace t3 := cell_keep t3 (Below.refl _ _).drew
              replace xR := xR.keep (Below.refl _ _).drew
              replace pR := pR.keep (Below.refl _ _).drew
              replace hrow := hrow.drew
              replace hbe := hbe.drew
              have hsz2 : wc.heap.size ≤ wr.drew.heap.size := hsz
              clear hsz
              generalize wr.drew = V at *
              have hk := Below.refl V.heap.size V
              go_wp2_with (first | ((with_reducible refine Calmly.is_fl ?_); refine Calmly.mix_fl rfl ?_ (fun _ _ => ?_); (first | exact .move _ | exact .load _ _ | exact .fieldAddr _ _ _ (by kernel_rfl) | exact .assign _ | exact .binOp _ _ _ _ _ rfl | exact .indexAddr _ _ _ | exact .len _ _ (by kernel_rfl) | exact .field _ _ _ | exact .extract _ _ | exact .pick _ _ _ | exact .build _ _ | exact .slice _ _ _ _ _ | exact .unOp _ _ _ rfl | exact .index _ _ _ | exact .max _ _ _ rfl rfl | exact .min _ _ _ rfl rfl)) | ((with_reducible refine Calmly.is_gl ?_); refine Calmly.mix_gl rfl rfl rfl ?_; first | ((first | with_reducible refine Calmly.gl_tt ?_ (fun _ _ => ?_) | with_reducible refine Calmly.gl_ff ?_ (fun _ _ => ?_)); (first | exact .move _ | exact .load _ _ | exact .fieldAddr _ _ _ (by kernel_rfl) | exact .assign _ | exact .binOp _ _ _ _ _ rfl | exact .indexAddr _ _ _ | exact .len _ _ (by kernel_rfl) | exact .field _ _ _ | exact .extract _ _ | exact .pick _ _ _ | exact .build _ _ | exact .slice _ _ _ _ _ | exact .unOp _ _ _ rfl | exact .index _ _ _ | exact .max _ _ _ rfl rfl | exact .min _ _ _ rfl rfl)) | with_reducible refine Calmly.gl_tf (fun _ _ => ?_) | with_reducible refine Calmly.gl_ft (fun _ _ => ?_)) | ((with_reducible refine Calmly.is_eff ?_); refine Calmly.mix_eff rfl (fun _ _ => ?_)) | ((with_reducible refine Calmly.is_gf ?_); refine Calmly.mix_gf rfl rfl rfl ?_; first | with_reducible refine Calmly.gf_tt (fun _ _ => ?_) | with_reducible refine Calmly.gf_ff (fun _ _ => ?_) | with_reducible refine Calmly.gf_tf (kept_of hk) (fun _ _ => ?_) | with_reducible refine Calmly.gf_ft (kept_of hk) (fun _ _ => ?_)) | ((with_reducible refine Calmly.is_kept ?_); refine ⟨kept_of hk, ?_⟩) | (with_reducible refine Calmly.mix_alt ?_ ?_))
              refine (RatioDiv_any x1 y1 m1 d1 x2 y2 m2 d2 p1 o1 m3 d3 p2 o2 m4 d4 10000 x q _ xR pR (by omega) (by omega) (by omega) (by omega) (by omega) hz).mono ?_
              rintro e w7 ⟨⟨ds, da, dn, dc, ds', da', dn', dc', rfl, dh, dh', rD⟩, hs⟩
              replace hk := step_of hk hs
              replace hrow := hrow.keep hs
              replace hbe := hbe.trans (hs.mono hsz2)
              have hsz3 : wc.heap.size ≤ w7.heap.size := hbe.size
              clear hs v0 v1 v2 v3 t0 t1 t2 t3 xR pR gk
              have hd1 : dn ≤ 40000 := by omega
              have hd2 : dn' ≤ 40000 := by omega
              go_wp2_with (first | ((with_reducible refine Calmly.is_tail ?_); refine Calmly.mix_tail_app rfl (fun rest hrest => ?_); refine appQ w7 rfl rfl _ _ rfl hrow rD hd1 hd2 rfl rfl (by omega) hsz3 ?_; intro a9 c9 w9 hrow9 hb9 hlt9; refine hrest _ _ ?_) | ((with_reducible refine Calmly.is_fl ?_); refine Calmly.mix_fl rfl ?_ (fun _ _ => ?_); (first | exact .move _ | exact .load _ _ | exact .fieldAddr _ _ _ (by kernel_rfl) | exact .assign _ | exact .binOp _ _ _ _ _ rfl | exact .indexAddr _ _ _ | exact .len _ _ (by kernel_rfl) | exact .field _ _ _ | exact .extract _ _ | exact .pick _ _ _ | exact .build _ _ | exact .slice _ _ _ _ _ | exact .unOp _ _ _ rfl | exact .index _ _ _ | exact .max _ _ _ rfl rfl | exact .min _ _ _ rfl rfl)) | ((with_reducible refine Calmly.is_gl ?_); refine Calmly.mix_gl rfl rfl rfl ?_; first | ((first | with_reducible refine Calmly.gl_tt ?_ (fun _ _ => ?_) | with_reducible refine Calmly.gl_ff ?_ (fun _ _ => ?_)); (first | exact .move _ | exact .load _ _ | exact .fieldAddr _ _ _ (by kernel_rfl) | exact .assign _ | exact .binOp _ _ _ _ _ rfl | exact .indexAddr _ _ _ | exact .len _ _ (by kernel_rfl) | exact .field _ _ _ | exact .extract _ _ | exact .pick _ _ _ | exact .build _ _ | exact .slice _ _ _ _ _ | exact .unOp _ _ _ rfl | exact .index _ _ _ | exact .max _ _ _ rfl rfl | exact .min _ _ _ rfl rfl)) | with_reducible refine Calmly.gl_tf (fun _ _ => ?_) | with_reducible refine Calmly.gl_ft (fun _ _ => ?_)) | ((with_reducible refine Calmly.is_eff ?_); refine Calmly.mix_eff rfl (fun _ _ => ?_)) | ((with_reducible refine Calmly.is_gf ?_); refine Calmly.mix_gf rfl rfl rfl ?_; first | with_reducible refine Calmly.gf_tt (fun _ _ => ?_) | with_reducible refine Calmly.gf_ff (fun _ _ => ?_) | with_reducible refine Calmly.gf_tf (kept_of hk) (fun _ _ => ?_) | with_reducible refine Calmly.gf_ft (kept_of hk) (fun _ _ => ?_)) | ((with_reducible refine Calmly.is_tail ?_); first | refine Calmly.mix_tail_nil ?_ | refine Calmly.mix_tail rfl (fun _ _ => ?_)) | ((with_reducible refine Calmly.is_kept ?_); refine ⟨kept_of hk, ?_⟩) | (with_reducible refine Calmly.mix_alt ?_ ?_) | (refine kept_alloc hk (fun hk' hblk hge => ?_); replace hk := hk'; clear hk'))
              go_roundw
              case rel =>
                refine ⟨k + 1, c9, a9, by go_num, rfl, by omega, ?_, hbe.trans hb9⟩
                rw [List.range_succ, List.map_append, List.map_singleton, HX.out, HQQ.out]
                exact hrow9
              case measure => simp [intOf]; omega
            · obtain rfl : k = c := by omega
              go_wp2_with fail
              refine bodyPost_ret (v := .tuple #[.slice a2' k c2', .bool true]) (by simp [results, Tryz.results66, go_sem]) rfl ⟨a2', c2', _, rfl, hrow, hbr.size, hbr.trans (hbe.mono hbr.size)⟩
end Go.Proofs.YtfjcfbmfpefabaaGreat

namespace Go.Proofs.YtfjcfbmfpefabaaGreat
open Go.RowKit
open Calmly (Kept)

set_option maxHeartbeats 400000 in
theorem nWithin_any (n lo hi : Int) (w : World) :
    Calls Tryz.prog 60 #[.int .i64 n, .int .i64 lo, .int .i64 hi] w fun e w' => e = .returned (.bool (wIn n lo hi)) ∧ w = w' := by
  go_enter Tryz.func60, Tryz.ntmps60
  go_wp2
  · go_ret
    refine ⟨ret_bool ?_, rfl⟩
    have h : lo ≤ n := by assumption
    simp [wIn, h]
  · go_ret
    refine ⟨ret_bool ?_, rfl⟩
    have : wIn n lo hi = false := wIn_false.2 (.inl (by assumption))
    rw [this]

theorem nSized_any (n m : Int) (w : World) (h1 : -9223372036854775807 ≤ m) (h2 : m ≤ 9223372036854775807) :
    Calls Tryz.prog 62 #[.int .i64 n, .int .i64 m] w fun e w' => e = .returned (.bool (wIn n (-m) m)) ∧ w = w' := by
  go_enter Tryz.func62, Tryz.ntmps62
  go_wp2_with fail
  refine (nWithin_any n (-m) m _).mono ?_
  rintro e w1 ⟨rfl, rfl⟩
  go_wp2_with fail
  go_ret
  exact ⟨rfl, rfl⟩

theorem nUnless_any (b : Bool) (x : Int) (w : World) :
    Calls Tryz.prog 27 #[.bool b, .int .i64 x] w fun e w' => e = .returned (.int .i64 (unlessE b x)) ∧ w = w' := by
  cases b
  · go_enter Tryz.func27, Tryz.ntmps27
    go_wp2
    go_ret
    exact ⟨rfl, rfl⟩
  · go_enter Tryz.func27, Tryz.ntmps27
    go_wp2
    go_ret
    exact ⟨rfl, rfl⟩

set_option maxRecDepth 100000 in
set_option maxHeartbeats 400000 in
theorem nFirst_any (a : Option Addr) (n c : Nat) (xs : List Int) (w : World) (h1 : SI w a n c xs) :
    Calls Tryz.prog 26 #[.slice a n c] w fun e w' => e = .returned (.int .i64 (firstE xs)) ∧ w = w' := by
  obtain ⟨l1, l2⟩ : n ≤ xs.length ∧ xs.length ≤ n := by have := h1.len; omega
  have m1 := h1.max
  have c1 := h1.cap
  go_enter Tryz.func26, Tryz.ntmps26
  go_wp2
  go_loop [7] (fun i => ∃ k : Nat, k ≤ n ∧ i = .int .i64 k ∧ firstE xs = firstE (xs.drop k)) (fun i => n - (intOf i).toNat)
  case atStart => exact ⟨0, by omega, rfl, rfl⟩
  case round =>
    obtain ⟨k, hk, rfl, ht⟩ := hrel
    have HT := Lib.hid ht
    clear ht
    by_cases hlt : k < n
    · obtain ⟨b1, o1, rfl, hc1⟩ := h1.at_ (by omega)
      have e1 := hc1 k hlt
      clear hc1
      have hd := firstE_drop xs k (by omega)
      have HD := Lib.hid hd
      clear hd
      have hi : (k : Int) < (n : Int) := by omega
      have hi0 : (0 : Int) ≤ (k : Int) := by omega
      go_wp2
      · have hne : (xs[k]?.getD 0 != 0) = true := by assumption
        go_ret
        refine ⟨ret_int ?_, rfl⟩
        rw [HT.out, HD.out, if_neg (by simpa using hne)]
      · have hne : (xs[k]?.getD 0 != 0) = false := by assumption
        go_round
        case rel => exact ⟨k + 1, by omega, by go_num, by rw [HT.out, HD.out, if_pos (by simpa using hne)]⟩
        case measure => simp [intOf]; omega
    · have hle : (n : Int) ≤ (k : Int) := by omega
      go_wp2
      go_ret
      refine ⟨ret_int ?_, rfl⟩
      rw [HT.out, List.drop_eq_nil_of_le (by omega)]
      rfl

set_option maxHeartbeats 400000 in
theorem nSize_any (n : Int) (w : World) (h1 : -9223372036854775807 ≤ n) (h2 : n ≤ 9223372036854775807) :
    Calls Tryz.prog 63 #[.int .i64 n] w fun e w' => e = .returned (.int .i64 n.natAbs) ∧ w = w' := by
  by_cases h : n < -n
  · go_enter Tryz.func63, Tryz.ntmps63
    go_wp2
    go_ret
    exact ⟨ret_int (by show -n = _; omega), rfl⟩
  · go_enter Tryz.func63, Tryz.ntmps63
    go_wp2
    go_ret
    exact ⟨ret_int (by show n = _; omega), rfl⟩

set_option maxRecDepth 100000 in
set_option maxHeartbeats 1000000 in
theorem nDivisor_any (a : Option Addr) (n c : Nat) (xs : List Int) (w : World) (h1 : SI w a n c xs) (hb : ∀ x ∈ xs, -9223372036854775807 ≤ x ∧ x ≤ 9223372036854775807) :
    Calls Tryz.prog 32 #[.slice a n c] w fun e w' => e = .returned (.int .i64 (gcds xs)) ∧ ∃ n, w' = w.drewN n := by
  obtain ⟨l1, l2⟩ : n ≤ xs.length ∧ xs.length ≤ n := by have := h1.len; omega
  have m1 := h1.max
  have c1 := h1.cap
  have HB := Lib.hid hb
  clear hb
  go_enter Tryz.func32, Tryz.ntmps32
  go_wp2
  go_loopw [3, 8] (fun g i wr => ∃ (k : Nat) (p : Int), k ≤ n ∧ i = .int .i64 k ∧ g = .int .i64 p ∧ p.natAbs = gcds (xs.take k) ∧ -9223372036854775807 ≤ p ∧ p ≤ 9223372036854775807 ∧ ∃ n, wr = w.drewN n) (fun _ i _ => n - (intOf i).toNat)
  case atStart => exact ⟨0, 0, by omega, rfl, rfl, rfl, by omega, by omega, 0, rfl⟩
  case round =>
    obtain ⟨k, p, hk, rfl, rfl, hg, hp1, hp2, q, rfl⟩ := hrel
    have HG := Lib.hid hg
    clear hg
    by_cases hlt : k < n
    · obtain ⟨b1, o1, rfl, hc1⟩ := h1.at_ (by omega)
      have e1 := hc1 k hlt
      clear hc1
      have hd := gcds_take xs k (by omega)
      rw [← HG.out] at hd
      have HD := Lib.hid hd
      clear hd
      have hx : -9223372036854775807 ≤ xs[k]?.getD 0 ∧ xs[k]?.getD 0 ≤ 9223372036854775807 := by
        have : k < xs.length := by omega
        simp only [List.getElem?_eq_getElem this, Option.getD_some]
        exact HB.out _ (List.getElem_mem this)
      obtain ⟨hx1, hx2⟩ := hx
      generalize xs[k]?.getD 0 = x at *
      have hi : (k : Int) < (n : Int) := by omega
      have hi0 : (0 : Int) ≤ (k : Int) := by omega
      go_wp2_with fail
      go_loopw [3, 5] (fun g y wr => ∃ (u v : Int), g = .int .i64 u ∧ y = .int .i64 v ∧ Int.gcd u v = Int.gcd p x ∧ -9223372036854775807 ≤ u ∧ u ≤ 9223372036854775807 ∧ -9223372036854775807 ≤ v ∧ v ≤ 9223372036854775807 ∧ ∃ n, wr = w.drewN n) (fun _ y _ => (intOf y).natAbs)
      case atStart => exact ⟨p, x, rfl, rfl, rfl, hp1, hp2, hx1, hx2, q, rfl⟩
      case round =>
        obtain ⟨u, v, rfl, rfl, hg, hu1, hu2, hv1, hv2, q', rfl⟩ := hrel
        have HG2 := Lib.hid hg
        clear hg
        by_cases hz : v = 0
        · have hb : (v != 0) = false := by simp [hz]
          have Hz := Lib.hid hz
          clear hz
          go_wp2_with fail
          go_round
          case rel =>
            refine ⟨k + 1, u, by omega, by go_num, rfl, ?_, hu1, hu2, q', rfl⟩
            have := HG2.out
            rw [Hz.out] at this
            have h3 := HD.out
            rw [Int.gcd] at h3 this
            simp at h3 this
            rw [h3, this, Int.gcd]
          case measure => simp [intOf]; omega
        · have hb : (v != 0) = true := by simpa using hz
          have h1 := tmod_bd (a := u) hz hv1 hv2
          have h2 := tmod_lt (a := u) hz
          have hc : (v == 0) = false := by simpa using hz
          go_wp2_with fail
          refine Calmly.wp_region_mix 5 (.fl 0 <| .fl 1 <| .fl 2 <| .fl 3 <| .fl 4 <| .tail [5]) (by kernel_rfl) (by kernel_rfl) ?_
          go_wp2_with (first | ((with_reducible refine Calmly.is_fl ?_); refine Calmly.mix_fl rfl ?_ (fun _ _ => ?_); (first | exact .move _ | exact .load _ _ | exact .fieldAddr _ _ _ (by kernel_rfl) | exact .assign _ | exact .binOp _ _ _ _ _ rfl | exact .indexAddr _ _ _ | exact .len _ _ (by kernel_rfl) | exact .field _ _ _ | exact .extract _ _ | exact .pick _ _ _ | exact .build _ _ | exact .slice _ _ _ _ _ | exact .unOp _ _ _ rfl | exact .index _ _ _ | exact .max _ _ _ rfl rfl | exact .min _ _ _ rfl rfl)) | ((with_reducible refine Calmly.is_gl ?_); refine Calmly.mix_gl rfl rfl rfl ?_; first | ((first | with_reducible refine Calmly.gl_tt ?_ (fun _ _ => ?_) | with_reducible refine Calmly.gl_ff ?_ (fun _ _ => ?_)); (first | exact .move _ | exact .load _ _ | exact .fieldAddr _ _ _ (by kernel_rfl) | exact .assign _ | exact .binOp _ _ _ _ _ rfl | exact .indexAddr _ _ _ | exact .len _ _ (by kernel_rfl) | exact .field _ _ _ | exact .extract _ _ | exact .pick _ _ _ | exact .build _ _ | exact .slice _ _ _ _ _ | exact .unOp _ _ _ rfl | exact .index _ _ _ | exact .max _ _ _ rfl rfl | exact .min _ _ _ rfl rfl)) | with_reducible refine Calmly.gl_tf (fun _ _ => ?_) | with_reducible refine Calmly.gl_ft (fun _ _ => ?_)) | ((with_reducible refine Calmly.is_eff ?_); refine Calmly.mix_eff rfl (fun _ _ => ?_)) | ((with_reducible refine Calmly.is_gf ?_); refine Calmly.mix_gf rfl rfl rfl ?_; first | with_reducible refine Calmly.gf_tt (fun _ _ => ?_) | with_reducible refine Calmly.gf_ff (fun _ _ => ?_) | with_reducible refine Calmly.gf_tf (kept_of hk) (fun _ _ => ?_) | with_reducible refine Calmly.gf_ft (kept_of hk) (fun _ _ => ?_)) | ((with_reducible refine Calmly.is_tail ?_); first | refine Calmly.mix_tail_nil ?_ | refine Calmly.mix_tail rfl (fun _ _ => ?_)) | ((with_reducible refine Calmly.is_kept ?_); refine ⟨kept_of hk, ?_⟩) | (with_reducible refine Calmly.mix_alt ?_ ?_))
          go_roundw
          case rel => exact ⟨v, u.tmod v, rfl, rfl, by rw [gcd_step]; exact HG2.out, hv1, hv2, h1.1, h1.2, q' + 1, rfl⟩
          case measure => simpa [intOf] using h2
    · have hle : (n : Int) ≤ (k : Int) := by omega
      go_wp2_with fail
      refine (nSize_any p _ hp1 hp2).mono ?_
      rintro e w1 ⟨rfl, rfl⟩
      go_wp2_with fail
      go_ret
      refine ⟨ret_int ?_, q, rfl⟩
      have := HG.out
      rw [List.take_of_length_le (by omega)] at this
      rw [← this]
end Go.Proofs.YtfjcfbmfpefabaaGreat
