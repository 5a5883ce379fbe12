/- The claim of MotionMatches. -/
import Derived.Test.YtiibdndchkbefaaK11
import Derived.Test.YtiibdndchkbefaaRows
namespace Go.Proofs.Ytiibdndchkbefaa
open Go.RowKit
open Calmly (Kept)

theorem badS_some {xs : List Int} {i k : Nat} (h : badS xs i = some k) : ∃ j, j < xs.length ∧ smp (xs[j]?.getD 0) = false := by
  induction xs generalizing i with
  | nil => cases h
  | cons x l ih =>
    rw [badS] at h
    split at h
    · obtain ⟨j, hj, hs⟩ := ih h
      exact ⟨j + 1, by simp; omega, by simpa using hs⟩
    · rename_i hx
      exact ⟨0, by simp, by simpa using hx⟩
theorem badS_gs (xs : List Int) : decide (gsT xs xs.length ≤ 1000) = (badS xs 0).isNone := by
  rw [Bool.eq_iff_iff, decide_eq_true_iff, gsT_le xs 1000 (by omega)]
  constructor
  · intro h
    cases hb : badS xs 0 with
    | none => rfl
    | some k =>
      obtain ⟨j, hj, hs⟩ := badS_some hb
      have := h j hj
      rcases wIn_false.1 hs with h2 | h2 <;> omega
  · intro h j _
    exact badS_none (Option.isNone_iff_eq_none.1 h) j

set_option maxRecDepth 100000 in
set_option maxHeartbeats 2000000 in
theorem rAdded_any (a : Option Addr) (n c : Nat) (xs : List Int) (b : Option Addr) (m d : Nat) (ws : List (List Int)) (t : Option Addr) (e : Nat) (ts : List Int) (w : World) (h1 : SI w a n c xs) (h2 : SW w b m d ws) (h3 : SI w t m e ts) (hn0 : 0 < n) (hn : n ≤ 26) (hm : m ≤ 5)
    (hx : ∀ j : Nat, -1000 ≤ xs[j]?.getD 0 ∧ xs[j]?.getD 0 ≤ 1000) (hl : ∀ i, i < ws.length → (ws[i]?.getD []).length = n) (hw : ∀ i t : Nat, -1000 ≤ (ws[i]?.getD [])[t]?.getD 0 ∧ (ws[i]?.getD [])[t]?.getD 0 ≤ 1000) (ht : ∀ j : Nat, -2 ≤ ts[j]?.getD 0 ∧ ts[j]?.getD 0 ≤ 2) (G : Bool) (hG : decide (gsT (adTo xs ws ts m) n ≤ 1000) = G) :
    Calls Try.prog 61 #[.slice a n c, .slice b m d, .slice t m e] w fun r w' => ∃ a' n' c', r = .returned (.tuple #[.slice a' n' c', .bool G]) ∧ (G = true → SI w' a' n' c' (adTo xs ws ts m)) ∧ n' ≤ c' ∧ c' ≤ 9223372036854775807 ∧ Below w.heap.size w w' := by
  obtain ⟨l1, l2⟩ : n ≤ xs.length ∧ xs.length ≤ n := by have := h1.len; omega
  obtain ⟨k1, k2⟩ : m ≤ ws.length ∧ ws.length ≤ m := by have := h2.len; omega
  have m1 := h1.max
  have c1 := h1.cap
  have m2 := h2.max
  have c2 := h2.cap
  have m3 := h3.max
  have c3 := h3.cap
  have hgb := badS_gs (adTo xs ws ts m)
  rw [adTo_len, show xs.length = n from by omega, hG] at hgb
  have HX := Lib.hid hx
  have HL := Lib.hid hl
  have HW := Lib.hid hw
  have HT := Lib.hid ht
  have HG := Lib.hid hgb
  clear hx hl hw ht hG hgb
  go_enter Try.func61, Try.ntmps61
  go_wp2_with fail
  refine (copyInts_any a n c xs _ h1 (by omega)).mono ?_
  rintro r w1 ⟨a1, c1', rfl, o1, hb1⟩
  obtain ⟨g, rfl, hg1, hg2⟩ := o1.at_ hn0
  have o0 : OwI w1 w.heap.size (some ⟨g, 0, none⟩) n c1' (adTo xs ws ts 0) := by rw [adTo_zero]; exact o1
  have m4 := o1.si.max
  have c4 := o1.si.cap
  clear o1
  go_wp2_with fail
  go_loopw [9] (fun i wr => ∃ k : Nat, k ≤ m ∧ i = .int .i64 k ∧ OwI wr w.heap.size (some ⟨g, 0, none⟩) n c1' (adTo xs ws ts k) ∧ Below w.heap.size w wr) (fun i _ => m - (intOf i).toNat)
  case atStart => exact ⟨0, by omega, rfl, o0, hb1⟩
  case round =>
    clear o0 hb1
    obtain ⟨k, hk, rfl, hown, hbr⟩ := hrel
    by_cases hlt : k < m
    · obtain ⟨bw, ow, rfl, hcw⟩ := h2.at_ (by omega)
      obtain ⟨aw, nw, cw, ew0, sw⟩ := hcw k hlt
      obtain ⟨q1, q2⟩ : nw ≤ n ∧ n ≤ nw := by
        have h5 := sw.len
        have h6 := HL.out k (by omega)
        omega
      obtain rfl : nw = n := by omega
      have m5 := sw.max
      have c5 := sw.cap
      clear hcw q1 q2
      have hi : (k : Int) < (m : Int) := by omega
      have hi0 : (0 : Int) ≤ (k : Int) := by omega
      have hown0 : OwI wr w.heap.size (some ⟨g, 0, none⟩) nw c1' (adMid xs ws ts k 0) := by rw [adMid_zero]; exact hown
      have hbr0 := hbr
      have hrz := hbr.size
      go_wp2_with fail
      go_loopw [10] (fun j wz => ∃ p : Nat, p ≤ nw ∧ j = .int .i64 p ∧ OwI wz w.heap.size (some ⟨g, 0, none⟩) nw c1' (adMid xs ws ts k p) ∧ Below w.heap.size w wz) (fun j _ => nw - (intOf j).toNat)
      case atStart => exact ⟨0, by omega, rfl, hown0, hbr0⟩
      case round =>
        clear hown hown0 hbr hbr0
        obtain ⟨p, hp, rfl, hown, hbz⟩ := hrel
        by_cases hpl : p < nw
        · have hj : (p : Int) < (nw : Int) := by omega
          have hj0 : (0 : Int) ≤ (p : Int) := by omega
          have ew := cell_keep ew0 hbz
          have ex := hown.cell p hpl
          rw [adMid_get xs ws ts k p (by omega)] at ex
          have fx := hown.free p
          obtain ⟨bx, ox, rfl, hcx⟩ := (sw.keep hbz).at_ hn0
          have e2 := hcx p hpl
          obtain ⟨bt, ot, rfl, hct⟩ := (h3.keep hbz).at_ (by omega)
          have e3 := hct k hlt
          obtain ⟨⟨n1, n2⟩, n3, n4⟩ := ad_nums HX.out HW.out HT.out p k (by omega)
          have st := hown.stored p (xs[p]?.getD 0 + adS ws ts p k + ts[k]?.getD 0 * (ws[k]?.getD [])[p]?.getD 0)
          rw [adMid_set xs ws ts k p (by omega)] at st
          have ST := Lib.hid st
          clear hcx hct st
          obtain ⟨x, hxx⟩ : ∃ x, xs[p]?.getD 0 + adS ws ts p k = x := ⟨_, rfl⟩
          obtain ⟨y, hyy⟩ : ∃ y, ts[k]?.getD 0 = y := ⟨_, rfl⟩
          obtain ⟨z, hzz⟩ : ∃ z, (ws[k]?.getD [])[p]?.getD 0 = z := ⟨_, rfl⟩
          rw [hxx] at ex n1 n2 ST
          rw [hyy] at e3 n3 n4 ST
          rw [hzz] at e2 n3 n4 ST
          clear hxx hyy hzz
          go_wp2_with fail
          refine Calmly.wp_region_mix 19 (.fl 0 <| .fl 1 <| .fl 2 <| .fl 3 <| .fl 4 <| .fl 5 <| .fl 6 <| .fl 7 <| .fl 8 <| .fl 9 <| .fl 10 <| .fl 11 <| .fl 12 <| .fl 13 <| .fl 14 <| .fl 15 <| .fl 16 <| .fl 17 <| .fl 18 <| .tail [19, 20]) (by kernel_rfl) (by kernel_rfl) ?_
          have hk := Below.refl wr.drew.heap.size wr.drew
          go_wp2_with (first | ((with_reducible refine Calmly.is_fl ?_); refine Calmly.mix_fl rfl ?_ (fun _ _ => ?_); (first | exact .move _ | exact .load _ _ | exact .fieldAddr _ _ _ (by kernel_rfl) | exact .assign _ | exact .binOp _ _ _ _ _ rfl | exact .indexAddr _ _ _ | exact .len _ _ (by kernel_rfl) | exact .field _ _ _ | exact .extract _ _ | exact .pick _ _ _ | exact .build _ _ | exact .slice _ _ _ _ _ | exact .unOp _ _ _ rfl | exact .index _ _ _ | exact .max _ _ _ rfl rfl | exact .min _ _ _ rfl rfl)) | ((with_reducible refine Calmly.is_gl ?_); refine Calmly.mix_gl rfl rfl rfl ?_; first | ((first | with_reducible refine Calmly.gl_tt ?_ (fun _ _ => ?_) | with_reducible refine Calmly.gl_ff ?_ (fun _ _ => ?_)); (first | exact .move _ | exact .load _ _ | exact .fieldAddr _ _ _ (by kernel_rfl) | exact .assign _ | exact .binOp _ _ _ _ _ rfl | exact .indexAddr _ _ _ | exact .len _ _ (by kernel_rfl) | exact .field _ _ _ | exact .extract _ _ | exact .pick _ _ _ | exact .build _ _ | exact .slice _ _ _ _ _ | exact .unOp _ _ _ rfl | exact .index _ _ _ | exact .max _ _ _ rfl rfl | exact .min _ _ _ rfl rfl)) | with_reducible refine Calmly.gl_tf (fun _ _ => ?_) | with_reducible refine Calmly.gl_ft (fun _ _ => ?_)) | ((with_reducible refine Calmly.is_eff ?_); refine Calmly.mix_eff rfl (fun _ _ => ?_)) | ((with_reducible refine Calmly.is_gf ?_); refine Calmly.mix_gf rfl rfl rfl ?_; first | with_reducible refine Calmly.gf_tt (fun _ _ => ?_) | with_reducible refine Calmly.gf_ff (fun _ _ => ?_) | with_reducible refine Calmly.gf_tf (kept_of hk) (fun _ _ => ?_) | with_reducible refine Calmly.gf_ft (kept_of hk) (fun _ _ => ?_)) | ((with_reducible refine Calmly.is_tail ?_); first | refine Calmly.mix_tail_nil ?_ | refine Calmly.mix_tail rfl (fun _ _ => ?_)) | ((with_reducible refine Calmly.is_kept ?_); refine ⟨kept_of hk, ?_⟩) | (with_reducible refine Calmly.mix_alt ?_ ?_))
          go_roundw
          case rel => exact ⟨p + 1, by omega, by go_num, ST.out.1.drew, hbz.trans ST.out.2.drew⟩
          case measure => simp [intOf]; omega
        · have hle : (nw : Int) ≤ (p : Int) := by omega
          go_wp2_with fail
          go_roundw
          case rel =>
            rw [adMid_all xs ws ts k p (by omega)] at hown
            exact ⟨k + 1, by omega, by go_num, hown, hbz⟩
          case measure => simp [intOf]; omega
    · have hle : (m : Int) ≤ (k : Int) := by omega
      obtain rfl : k = m := by omega
      have sa := hown.si
      obtain ⟨Y, hY⟩ : ∃ Y, adTo xs ws ts k = Y := ⟨_, rfl⟩
      rw [hY] at sa HG
      have HY := Lib.hid hY
      have hYl : Y.length = n := by rw [← hY, adTo_len]; omega
      have HYL := Lib.hid hYl
      clear hown hY hYl
      go_wp2_with fail
      go_loopw [11] (fun j wz => ∃ p : Nat, p ≤ n ∧ j = .int .i64 p ∧ badS Y 0 = badS (Y.drop p) p ∧ wz = wr) (fun j _ => n - (intOf j).toNat)
      case atStart => exact ⟨0, by omega, rfl, rfl, rfl⟩
      case round =>
        obtain ⟨p, hp, rfl, hbs, rfl⟩ := hrel
        have HBS := Lib.hid hbs
        clear hbs
        by_cases hpl : p < n
        · obtain ⟨bx, ox, hee, hcx⟩ := sa.at_ (by omega)
          cases hee
          have ex := hcx p hpl
          rw [Nat.zero_add] at ex
          clear hcx
          have hbd := badS_drop Y p (by rw [HYL.out]; exact hpl)
          obtain ⟨z, hzz⟩ : ∃ z, Y[p]?.getD 0 = z := ⟨_, rfl⟩
          rw [hzz] at ex hbd
          have HBD := Lib.hid hbd
          clear hbd hzz
          have hj : (p : Int) < (n : Int) := by omega
          have hj0 : (0 : Int) ≤ (p : Int) := by omega
          go_wp2_with fail
          refine (rIsSample_any _ _).mono ?_
          rintro e w2 ⟨rfl, rfl⟩
          cases ho : smp z
          · have hRE : G = false := by
              rw [HG.out, HBS.out, HBD.out, ho]
              rfl
            subst hRE
            go_wp2_with fail
            go_ret2
            exact ⟨none, 0, 0, rfl, (fun h => by cases h), by omega, by omega, hbr⟩
          · go_wp2_with fail
            go_roundw
            case rel => exact ⟨p + 1, by omega, by go_num, by rw [HBS.out, HBD.out, ho]; rfl, by first | rfl | trivial⟩
            case measure => simp [intOf]; omega
        · have hle : (n : Int) ≤ (p : Int) := by omega
          have hRE : G = true := by rw [HG.out, HBS.out, List.drop_eq_nil_of_le (by rw [HYL.out]; omega)]; rfl
          subst hRE
          go_wp2_with fail
          go_ret2
          exact ⟨_, n, c1', rfl, (by rw [HY.out]; exact sa), c4, m4, hbr⟩

set_option maxRecDepth 100000 in
set_option maxHeartbeats 4000000 in
theorem rMatch_any (a : Option Addr) (n c : Nat) (xs : List Int) (b : Option Addr) (m d : Nat) (ws : List (List Int)) (ba : Option Addr) (bn bc : Nat) (l : List Four) (w : World) (h1 : SI w a n c xs) (h2 : SW w b m d ws) (h3 : SB w ba bn bc l) (hn0 : 0 < n) (hn : n ≤ 26) (hm : m ≤ 5) (hbn : bn ≤ 1000)
    (hx : ∀ j : Nat, -1000 ≤ xs[j]?.getD 0 ∧ xs[j]?.getD 0 ≤ 1000) (hl : ∀ i, i < ws.length → (ws[i]?.getD []).length = n) (hw : ∀ i t : Nat, -1000 ≤ (ws[i]?.getD [])[t]?.getD 0 ∧ (ws[i]?.getD [])[t]?.getD 0 ≤ 1000) (ho : ∀ k, k < l.length → oscE (l[k]?.getD four0).1 = 0) :
    Calls Try.prog 24 #[.slice a n c, .slice b m d, .slice ba bn bc] w fun r w' => ∃ a' n' c', r = .returned (.tuple #[.slice a' n' c', .bool (mtF (goodM xs ws l) m).2]) ∧ SI w' a' n' c' (mtF (goodM xs ws l) m).1 ∧ Below w.heap.size w w' := by
  obtain ⟨l1, l2⟩ : n ≤ xs.length ∧ xs.length ≤ n := by have := h1.len; omega
  obtain ⟨k1, k2⟩ : m ≤ ws.length ∧ ws.length ≤ m := by have := h2.len; omega
  obtain ⟨j1, j2⟩ : bn ≤ l.length ∧ l.length ≤ bn := by have := h3.len; omega
  have m1 := h1.max
  have c1 := h1.cap
  have m2 := h2.max
  have c2 := h2.cap
  have m3 := h3.max
  have c3 := h3.cap
  have HX := Lib.hid hx
  have HL := Lib.hid hl
  have HW := Lib.hid hw
  have HO := Lib.hid ho
  clear hx hl hw ho
  go_enter Try.func24, Try.ntmps24
  go_wp2_with fail
  refine (choices_any m hm _).mono ?_
  rintro e w1 ⟨ca, cn, cc, rfl, sc, hb1⟩
  have hcn := sc.len
  have HCN := Lib.hid hcn
  have mc := sc.max
  have cc' := sc.cap
  clear hcn
  go_wp2_with fail
  go_loopw [8, 9, 11] (fun x y i wr => ∃ (k : Nat) (a' : Option Addr) (n' c' : Nat), i = .int .i64 k ∧ k ≤ cn ∧ x = .slice a' n' c' ∧ y = .bool (((allC m).take k).foldl (mtStep (goodM xs ws l)) ([], false)).2 ∧ SI wr a' n' c' (((allC m).take k).foldl (mtStep (goodM xs ws l)) ([], false)).1 ∧ (n' ≤ 5 ∧ ∀ j : Nat, -2 ≤ (((allC m).take k).foldl (mtStep (goodM xs ws l)) ([], false)).1[j]?.getD 0 ∧ (((allC m).take k).foldl (mtStep (goodM xs ws l)) ([], false)).1[j]?.getD 0 ≤ 2) ∧ Below w1.heap.size w1 wr) (fun _ _ i _ => cn - (intOf i).toNat)
  case atStart => exact ⟨0, none, 0, 0, rfl, by omega, rfl, rfl, Sl.nil _ 1, ⟨by omega, fun j => by simp⟩, Below.refl _ _⟩
  case round =>
    obtain ⟨k, a', n', c', rfl, hk, rfl, rfl, hsi, hbd, hbr⟩ := hrel
    have hbw := hb1.trans (hbr.mono hb1.size)
    by_cases hlt : k < cn
    · have hpl2 : k < (allC m).length := by rw [← HCN.out]; exact hlt
      have htk : (allC m).take (k + 1) = (allC m).take k ++ [(allC m)[k]?.getD []] := by
        rw [List.take_succ_eq_append_getElem hpl2, List.getElem?_eq_getElem hpl2]
        rfl
      have hmem : (allC m)[k]?.getD [] ∈ allC m := by
        rw [List.getElem?_eq_getElem hpl2]
        exact List.getElem_mem hpl2
      obtain ⟨cb, co, rfl, hcc⟩ := (sc.keep hbr).at_ (by omega)
      obtain ⟨ta, tn, tc, y0, st⟩ := hcc k hlt
      clear hcc
      obtain ⟨t, htt⟩ : ∃ t, (allC m)[k]?.getD [] = t := ⟨_, rfl⟩
      rw [htt] at st htk hmem
      obtain ⟨hl1, hl2⟩ := allC_len hmem
      obtain rfl : m = tn := by have := st.len; omega
      have hstep : ((allC m).take (k + 1)).foldl (mtStep (goodM xs ws l)) ([], false) = mtStep (goodM xs ws l) (((allC m).take k).foldl (mtStep (goodM xs ws l)) ([], false)) t := by rw [htk, List.foldl_append]; rfl
      have mt := st.max
      have ct := st.cap
      clear htt hmem htk hpl2
      obtain ⟨S, hS⟩ : ∃ S, ((allC m).take k).foldl (mtStep (goodM xs ws l)) ([], false) = S := ⟨_, rfl⟩
      rw [hS] at hsi hbd hstep ⊢
      obtain ⟨sb, sf⟩ := S
      dsimp only at hsi hbd ⊢
      obtain ⟨hbd1, hbd2⟩ := hbd
      have hgood : goodM xs ws l t = (decide (gsT (adTo xs ws t m) n ≤ 1000) && (outT (adTo xs ws t m) l bn).isEmpty) := by
        unfold goodM
        rw [show ws.length = m by omega, show xs.length = n by omega, show l.length = bn by omega]
      have hszt : szs t = szT t m := by unfold szs; rw [hl1]
      have hszb : szs sb = szT sb n' := by unfold szs; rw [hsi.len]
      have HG := Lib.hid hgood
      have HST := Lib.hid hszt
      have HSB := Lib.hid hszb
      have HSS := Lib.hid hstep
      have HT2 := Lib.hid hl2
      have HB2 := Lib.hid hbd2
      have hi : (k : Int) < (cn : Int) := by omega
      have hi0 : (0 : Int) ≤ (k : Int) := by omega
      clear hgood hszt hszb hstep hl2 hbd2 hS
      cases hok : decide (gsT (adTo xs ws t m) n ≤ 1000)
      · have he : mtStep (goodM xs ws l) (sb, sf) t = (sb, sf) := by
          unfold mtStep
          rw [if_neg]
          rintro ⟨hh, _⟩
          rw [HG.out, hok] at hh
          cases hh
        have HM := Lib.hid he
        clear he
        go_wp2_with fail
        refine (rAdded_any a n c xs b m d ws ta tc t _ (h1.keep hbw) (h2.keep hbw) st hn0 hn hm HX.out HL.out HW.out HT2.out false hok).mono ?_
        rintro e w2 ⟨a2, n2, c2', rfl, _, q2, q3, hs⟩
        have hr1 := hbr.size
        replace hbr := hbr.trans (hs.mono hr1)
        replace hsi := hsi.keep hs
        clear hok
        go_wp2_with fail
        go_roundw
        case rel => exact ⟨k + 1, a', n', c', by go_num, by omega, rfl, by rw [HSS.out, HM.out], by rw [HSS.out, HM.out]; exact hsi, by rw [HSS.out, HM.out]; exact ⟨hbd1, HB2.out⟩, hbr⟩
        case measure => simp [intOf]; omega
      · have hsb : ∀ j : Nat, -1000 ≤ (adTo xs ws t m)[j]?.getD 0 ∧ (adTo xs ws t m)[j]?.getD 0 ≤ 1000 := by
          intro j
          rcases Nat.lt_or_ge j n with hj | hj
          · exact (gsT_le _ 1000 (by omega) n).1 (of_decide_eq_true hok) j hj
          · rw [List.getElem?_eq_none (by rw [adTo_len]; omega)]
            simp
        have HS := Lib.hid hsb
        go_wp2_with fail
        refine (rAdded_any a n c xs b m d ws ta tc t _ (h1.keep hbw) (h2.keep hbw) st hn0 hn hm HX.out HL.out HW.out HT2.out true hok).mono ?_
        rintro e w2 ⟨a2, n2, c2', rfl, s2, q2, q3, hs⟩
        replace s2 := s2 rfl
        obtain rfl : n = n2 := by have := s2.len; rw [adTo_len] at this; omega
        rw [hok] at HG
        have hr1 := hbr.size
        have hr2 := hbw.size
        replace hbr := hbr.trans (hs.mono hr1)
        replace hbw := hbw.trans (hs.mono hr2)
        replace hsi := hsi.keep hs
        replace st := st.keep hs
        replace y0 := cell_keep y0 hs
        clear hok hsb hs hr1 hr2
        go_wp2_with fail
        refine (rOutside_any a2 n c2' _ ba bn bc l _ s2 (h3.keep hbw) hn HS.out hbn HO.out).mono ?_
        rintro e w3 ⟨a3, n3, c3', rfl, s3, hs⟩
        have hr1 := hbr.size
        replace hbr := hbr.trans (hs.mono hr1)
        replace hsi := hsi.keep hs
        replace st := st.keep hs
        replace y0 := cell_keep y0 hs
        have hl3 := s3.len
        have m3' := s3.max
        have c3'' := s3.cap
        clear hs hr1
        cases hem : (outT (adTo xs ws t m) l bn).isEmpty
        · have he : mtStep (goodM xs ws l) (sb, sf) t = (sb, sf) := by
            unfold mtStep
            rw [if_neg]
            rintro ⟨hh, _⟩
            rw [HG.out, hem] at hh
            cases hh
          have HM := Lib.hid he
          have hpos : (0 : Int) < (n3 : Int) := by
            have : n3 ≠ 0 := by
              intro h0
              rw [h0] at hl3
              rw [List.length_eq_zero_iff.1 hl3.symm] at hem
              cases hem
            omega
          clear he hem hl3
          go_wp2_with fail
          go_roundw
          case rel => exact ⟨k + 1, a', n', c', by go_num, by omega, rfl, by rw [HSS.out, HM.out], by rw [HSS.out, HM.out]; exact hsi, by rw [HSS.out, HM.out]; exact ⟨hbd1, HB2.out⟩, hbr⟩
          case measure => simp [intOf]; omega
        · obtain rfl : n3 = 0 := by rw [hl3, List.isEmpty_iff.1 hem]; rfl
          rw [hem] at HG
          clear hl3 hem
          cases sf
          · have he : mtStep (goodM xs ws l) (sb, false) t = (t, true) := by
              unfold mtStep
              rw [if_pos]
              exact ⟨by rw [HG.out]; rfl, fun h => by cases h⟩
            have HM := Lib.hid he
            clear he
            go_wp2_with fail
            go_roundw
            case rel => exact ⟨k + 1, ta, m, tc, by go_num, by omega, rfl, by rw [HSS.out, HM.out], by rw [HSS.out, HM.out]; exact st, by rw [HSS.out, HM.out]; exact ⟨hm, HT2.out⟩, hbr⟩
            case measure => simp [intOf]; omega
          · by_cases hlt2 : szT t m < szT sb n'
            · have he : mtStep (goodM xs ws l) (sb, true) t = (t, true) := by
                unfold mtStep
                rw [if_pos]
                exact ⟨by rw [HG.out]; rfl, fun _ => by dsimp only; rw [HST.out, HSB.out]; exact hlt2⟩
              have HM := Lib.hid he
              clear he
              go_wp2_with fail
              refine (rSizes_any ta m tc t _ st (by omega) (fun j => by have := HT2.out j; omega)).mono ?_
              rintro e w4 ⟨rfl, rfl⟩
              go_wp2_with fail
              refine (rSizes_any a' n' c' sb _ hsi (by omega) (fun j => by have := HB2.out j; omega)).mono ?_
              rintro e w4 ⟨rfl, rfl⟩
              go_wp2_with fail
              go_roundw
              case rel => exact ⟨k + 1, ta, m, tc, by go_num, by omega, rfl, by rw [HSS.out, HM.out], by rw [HSS.out, HM.out]; exact st, by rw [HSS.out, HM.out]; exact ⟨hm, HT2.out⟩, hbr⟩
              case measure => simp [intOf]; omega
            · have hge : szT sb n' ≤ szT t m := by omega
              have he : mtStep (goodM xs ws l) (sb, true) t = (sb, true) := by
                unfold mtStep
                rw [if_neg]
                rintro ⟨_, hh⟩
                have := hh rfl
                dsimp only at this
                rw [HST.out, HSB.out] at this
                omega
              have HM := Lib.hid he
              clear he hlt2
              go_wp2_with fail
              refine (rSizes_any ta m tc t _ st (by omega) (fun j => by have := HT2.out j; omega)).mono ?_
              rintro e w4 ⟨rfl, rfl⟩
              go_wp2_with fail
              refine (rSizes_any a' n' c' sb _ hsi (by omega) (fun j => by have := HB2.out j; omega)).mono ?_
              rintro e w4 ⟨rfl, rfl⟩
              go_wp2_with fail
              go_roundw
              case rel => exact ⟨k + 1, a', n', c', by go_num, by omega, rfl, by rw [HSS.out, HM.out], by rw [HSS.out, HM.out]; exact hsi, by rw [HSS.out, HM.out]; exact ⟨hbd1, HB2.out⟩, hbr⟩
              case measure => simp [intOf]; omega
    · have hle : (cn : Int) ≤ (k : Int) := by omega
      have hfin : ((allC m).take k).foldl (mtStep (goodM xs ws l)) ([], false) = mtF (goodM xs ws l) m := by
        rw [List.take_of_length_le (by rw [← HCN.out]; omega)]
        rfl
      rw [hfin] at hsi ⊢
      clear hfin hbd
      go_wp2_with fail
      go_ret2
      exact ⟨a', n', c', rfl, hsi, hbw⟩
end Go.Proofs.Ytiibdndchkbefaa

namespace Go.Proofs.Ytiibdndchkbefaa
open Go.RowKit
open Calmly (Kept)

theorem decide_refl (l : List Int) : decide (l = l) = true := by simp

set_option maxRecDepth 100000 in
set_option maxHeartbeats 4000000 in
theorem MotionRecords_walk (step : Int) (a : Option Addr) (n c : Nat) (xs : List Int) (w : World) (h1 : SI w a n c xs) :
    Calls Try.prog 5 #[.agg #[.int .i64 step, .slice a n c]] w fun e w' => e = .returned (.bool true) ∧ Below w.heap.size w w' := by
  have hA : ∀ (A : World) (o : Obj), Below A.heap.size A (A.alloc o) := fun A o => (Below.refl _ _).alloc (Nat.le_refl _) _
  obtain ⟨l1, l2⟩ : n ≤ xs.length ∧ xs.length ≤ n := by have := h1.len; omega
  have m1 := h1.max
  have c1 := h1.cap
  have x1 := alloc_new w (.cells #[.int .i64 step, .slice a n c] 24)
  have BW := hA w (.cells #[.int .i64 step, .slice a n c] 24)
  go_enter Try.func5, Try.ntmps5
  go_wp2_with fail
  refine (awake_any _).mono ?_
  rintro e w1 ⟨rfl, hs⟩
  replace x1 := blk_keep x1 hs
  replace BW := BW.trans (hs.mono BW.size)
  clear hs
  have f0 := cell_block x1 0
  have f1 := cell_block x1 1
  go_wp2_with fail
  refine (few_any step a n c _ c1 m1).mono ?_
  rintro e w2 ⟨rfl, hs⟩
  replace x1 := blk_keep x1 hs
  replace BW := BW.trans (hs.mono BW.size)
  clear hs f0 f1
  have f0 := cell_block x1 0
  have f1 := cell_block x1 1
  by_cases hn : n ≤ 26
  case neg =>
    rw [show decide (n ≤ 26) = false from by simpa using hn]
    go_wp2_with fail
    go_ret
    exact ⟨rfl, BW⟩
  rw [show decide (n ≤ 26) = true from by simpa using hn]
  obtain ⟨I, E, hR⟩ : ∃ I E, recF step xs = (I, E) := ⟨_, _, rfl⟩
  obtain ⟨X1, hX1, hX1'⟩ : ∃ X : List Int, (E ≠ 0 → X = []) ∧ (E = 0 → X = sumsF xs) := by
    by_cases h : E = 0
    · exact ⟨_, fun hh => absurd h hh, fun _ => rfl⟩
    · exact ⟨_, fun _ => rfl, fun hh => absurd hh h⟩
  obtain ⟨X2, hX2, hX2'⟩ : ∃ X : List Int, (E ≠ 0 → X = []) ∧ (E = 0 → X = sumsF (sumsF xs)) := by
    by_cases h : E = 0
    · exact ⟨_, fun hh => absurd h hh, fun _ => rfl⟩
    · exact ⟨_, fun _ => rfl, fun hh => absurd hh h⟩
  obtain ⟨V, D, hV, hV'⟩ : ∃ V D : Int, (E ≠ 0 → V = 0 ∧ D = 0) ∧ (E = 0 → sumT xs n = V ∧ sumT (sumsF xs) n = D) := by
    by_cases h : E = 0
    · exact ⟨_, _, fun hh => absurd h hh, fun _ => ⟨rfl, rfl⟩⟩
    · exact ⟨_, _, fun _ => ⟨rfl, rfl⟩, fun hh => absurd hh h⟩
  have HR := Lib.hid hR
  have HX1 := Lib.hid hX1
  have HX1' := Lib.hid hX1'
  have HX2 := Lib.hid hX2
  have HX2' := Lib.hid hX2'
  have HV := Lib.hid hV
  have HV' := Lib.hid hV'
  clear hR hX1 hX1' hX2 hX2' hV hV'
  go_wp2_with fail
  refine (copy_any step a n c xs _ (h1.keep BW) (by omega)).mono ?_
  rintro e w3 ⟨a3, c3, rfl, s3, hs⟩
  replace x1 := blk_keep x1 hs
  replace BW := BW.trans (hs.mono BW.size)
  clear hs f0 f1
  have f0 := cell_block x1 0
  have f1 := cell_block x1 1
  go_wp2_with fail
  refine (CheckRecord_any step a3 n c3 xs _ s3 I E HR.out).mono ?_
  rintro e w4 ⟨rfl, hs⟩
  replace x1 := blk_keep x1 hs
  replace BW := BW.trans (hs.mono BW.size)
  clear hs f0 f1 s3
  have f0 := cell_block x1 0
  have f1 := cell_block x1 1
  go_wp2_with fail
  refine (copy_any step a n c xs _ (h1.keep BW) (by omega)).mono ?_
  rintro e w5 ⟨a5, c5, rfl, s5, hs⟩
  replace x1 := blk_keep x1 hs
  replace BW := BW.trans (hs.mono BW.size)
  clear hs f0 f1
  have f0 := cell_block x1 0
  have f1 := cell_block x1 1
  go_wp2_with fail
  refine (VelocitiesOf_any step a5 n c5 xs _ s5 E X1 (by rw [HR.out]) HX1.out HX1'.out).mono ?_
  rintro e w6 ⟨av, nv, cv, rfl, sv, hs⟩
  replace x1 := blk_keep x1 hs
  replace BW := BW.trans (hs.mono BW.size)
  clear hs f0 f1 s5
  have f0 := cell_block x1 0
  have f1 := cell_block x1 1
  go_wp2_with fail
  refine (copy_any step a n c xs _ (h1.keep BW) (by omega)).mono ?_
  rintro e w7 ⟨a7, c7, rfl, s7, hs⟩
  replace x1 := blk_keep x1 hs
  replace BW := BW.trans (hs.mono BW.size)
  replace sv := sv.keep hs
  clear hs f0 f1
  have f0 := cell_block x1 0
  have f1 := cell_block x1 1
  go_wp2_with fail
  refine (DisplacementsOf_any step a7 n c7 xs _ s7 E X2 (by rw [HR.out]) HX2.out HX2'.out).mono ?_
  rintro e w8 ⟨ad, nd, cd, rfl, sd, hs⟩
  replace x1 := blk_keep x1 hs
  replace BW := BW.trans (hs.mono BW.size)
  replace sv := sv.keep hs
  clear hs f0 f1 s7
  have f0 := cell_block x1 0
  have f1 := cell_block x1 1
  go_wp2_with fail
  refine (copy_any step a n c xs _ (h1.keep BW) (by omega)).mono ?_
  rintro e w9 ⟨a9, c9, rfl, s9, hs⟩
  replace x1 := blk_keep x1 hs
  replace BW := BW.trans (hs.mono BW.size)
  replace sv := sv.keep hs
  replace sd := sd.keep hs
  clear hs f0 f1
  have f0 := cell_block x1 0
  have f1 := cell_block x1 1
  go_wp2_with fail
  refine (EndOf_any step a9 n c9 xs _ s9 E V D (by rw [HR.out]) HV.out HV'.out).mono ?_
  rintro e w10 ⟨rfl, hs⟩
  replace x1 := blk_keep x1 hs
  have hbl := blk_lt x1
  have hk := hA w10 (.cells #[.int .i64 V, .int .i64 D] 58)
  have y1 := alloc_new w10 (.cells #[.int .i64 V, .int .i64 D] 58)
  replace x1 := blk_keep x1 hk
  replace BW := BW.trans (hs.mono BW.size)
  replace BW := BW.trans (hk.mono BW.size)
  replace sv := (sv.keep hs).keep hk
  replace sd := (sd.keep hs).keep hk
  clear hs f0 f1 s9 hk
  have f0 := cell_block x1 0
  have f1 := cell_block x1 1
  go_wp2_with fail
  obtain ⟨bx, hbx⟩ : ∃ b, w10.heap.size = b := ⟨_, rfl⟩
  obtain ⟨W, hW⟩ : ∃ W, w10.alloc (.cells #[.int .i64 V, .int .i64 D] 58) = W := ⟨_, rfl⟩
  rw [hW] at x1 y1 BW sv sd f0 f1 ⊢
  rw [hbx] at y1 hbl ⊢
  clear hW hbx
  refine (rCheckRecord_any step a n c xs _ (h1.keep BW) I E HR.out).mono ?_
  rintro e w11 ⟨rfl, hs⟩
  replace x1 := blk_keep x1 hs
  replace y1 := blk_keep y1 hs
  replace BW := BW.trans (hs.mono BW.size)
  replace sv := sv.keep hs
  replace sd := sd.keep hs
  clear hs f0 f1
  have f0 := cell_block x1 0
  have f1 := cell_block x1 1
  have f2 := cell_block y1 0
  have f3 := cell_block y1 1
  by_cases hz : E = 0
  case neg =>
    obtain ⟨rfl, rfl⟩ := HV.out hz
    have e1 := sv.len
    have e2 := sd.len
    rw [HX1.out hz] at e1
    rw [HX2.out hz] at e2
    obtain rfl : nv = 0 := e1
    obtain rfl : nd = 0 := e2
    have b1 : (E != 0) = true := by simpa using hz
    clear hz
    go_wp2_with fail
    go_ret
    exact ⟨rfl, BW⟩
  subst hz
  have e1 := sv.len
  have e2 := sd.len
  have q1 := HX1'.out rfl
  have q2 := HX2'.out rfl
  obtain ⟨q3, q4⟩ := HV'.out rfl
  subst q1 q2
  rw [sumsF_len] at e1
  rw [sumsF_len, sumsF_len] at e2
  obtain rfl : n = nv := by omega
  obtain rfl : n = nd := by omega
  obtain ⟨g1, g2, g3, g4, g5⟩ := recF_ok (step := step) (xs := xs) (by rw [HR.out])
  have H5 := Lib.hid g5
  have Q3 := Lib.hid q3
  have Q4 := Lib.hid q4
  have hn0 : 0 < n := by omega
  have hlv : (sumsF xs)[n - 1]?.getD 0 = V := by rw [sumsF_get xs (n - 1) (by omega), ← q3]; congr 1; omega
  have hld : (sumsF (sumsF xs))[n - 1]?.getD 0 = D := by rw [sumsF_get (sumsF xs) (n - 1) (by rw [sumsF_len]; omega), ← q4]; congr 1; omega
  have HLV := Lib.hid hlv
  have HLD := Lib.hid hld
  clear g1 g2 g3 g4 g5 q3 q4 e1 e2 hlv hld
  go_wp2_with fail
  refine Calmly.wp_region_mix 33 (.fl 0 <| .fl 1 <| .fl 2 <| .gl 3 <| .gl 4 <| .gl 5 <| .gf 6 <| .gf 7 <| .gl 8 <| .fl 9 <| .fl 10 <| .gl 11 <| .gl 12 <| .fl 13 <| .fl 14 <| .gl 15 <| .gl 16 <| .gl 17 <| .gf 18 <| .gf 19 <| .gl 20 <| .fl 21 <| .fl 22 <| .gl 23 <| .gl 24 <| .fl 25 <| .fl 26 <| .gl 27 <| .gl 28 <| .gl 29 <| .gf 30 <| .gf 31 <| .fl 32 <| .tail []) (by kernel_rfl) (by kernel_rfl) ?_
  have hkd : Below w11.heap.size w11 w11.drew := (Below.refl _ _).drew
  generalize w11.drew = U at hkd ⊢
  replace x1 := blk_keep x1 hkd
  replace y1 := blk_keep y1 hkd
  replace BW := BW.trans (hkd.mono BW.size)
  replace sv := sv.keep hkd
  replace sd := sd.keep hkd
  clear f0 f1 f2 f3 hkd
  have f0 := cell_block x1 0
  have f1 := cell_block x1 1
  have f2 := cell_block y1 0
  have f3 := cell_block y1 1
  have hk := Below.refl U.heap.size U
  have S1 := Lib.hid True.intro
  go_wp2_with (first | ((with_reducible refine Calmly.is_fl ?_); refine Calmly.mix_fl rfl ?_ (fun _ _ => ?_); (first | exact .move _ | exact .load _ _ | exact .fieldAddr _ _ _ (by kernel_rfl) | exact .assign _ | exact .binOp _ _ _ _ _ rfl | exact .indexAddr _ _ _ | exact .len _ _ (by kernel_rfl) | exact .field _ _ _ | exact .extract _ _ | exact .pick _ _ _ | exact .build _ _ | exact .slice _ _ _ _ _ | exact .unOp _ _ _ rfl | exact .index _ _ _ | exact .max _ _ _ rfl rfl | exact .min _ _ _ rfl rfl)) | ((with_reducible refine Calmly.is_gl ?_); refine Calmly.mix_gl rfl rfl rfl ?_; first | ((first | with_reducible refine Calmly.gl_tt ?_ (fun _ _ => ?_) | with_reducible refine Calmly.gl_ff ?_ (fun _ _ => ?_)); (first | exact .move _ | exact .load _ _ | exact .fieldAddr _ _ _ (by kernel_rfl) | exact .assign _ | exact .binOp _ _ _ _ _ rfl | exact .indexAddr _ _ _ | exact .len _ _ (by kernel_rfl) | exact .field _ _ _ | exact .extract _ _ | exact .pick _ _ _ | exact .build _ _ | exact .slice _ _ _ _ _ | exact .unOp _ _ _ rfl | exact .index _ _ _ | exact .max _ _ _ rfl rfl | exact .min _ _ _ rfl rfl)) | with_reducible refine Calmly.gl_tf (fun _ _ => ?_) | with_reducible refine Calmly.gl_ft (fun _ _ => ?_)) | ((with_reducible refine Calmly.is_eff ?_); refine Calmly.mix_eff rfl (fun _ _ => ?_)) | ((with_reducible refine Calmly.is_gf ?_); refine Calmly.mix_gf rfl rfl rfl ?_; first | with_reducible refine Calmly.gf_tt (fun _ _ => ?_) | with_reducible refine Calmly.gf_ff (fun _ _ => ?_) | with_reducible refine Calmly.gf_tf (kept_of hk) (fun _ _ => ?_) | with_reducible refine Calmly.gf_ft (kept_of hk) (fun _ _ => ?_)) | ((with_reducible refine Calmly.is_tail ?_); first | refine Calmly.mix_tail_nil ?_ | refine Calmly.mix_tail rfl (fun _ _ => ?_)) | ((with_reducible refine Calmly.is_kept ?_); refine ⟨kept_of hk, ?_⟩) | (with_reducible refine Calmly.mix_alt ?_ ?_) | (go_at_call 35; refine (rVelocities_any a n c xs _ ((h1.keep BW).keep hk) (by omega) (fun j => by have := H5.out j; omega)).mono ?_; rintro e u1 ⟨a11, c11, rfl, s11, hs1⟩; replace hk := step_of hk hs1) | (go_at_call 25; have _ := S1.out; clear S1; refine (ints_any av a11 n n cv c11 _ _ _ (sv.keep hk) s11).mono ?_; rintro e u2 ⟨rfl, q2, rfl⟩; rw [decide_refl]; replace hk := below_drewN hk q2) | (go_at_call 36; refine (rDisplacements_any a n c xs _ ((h1.keep BW).keep hk) (by omega) H5.out).mono ?_; rintro e u3 ⟨a12, c12, rfl, s12, hs2⟩; replace hk := step_of hk hs2) | (go_at_call 25; refine (ints_any ad a12 n n cd c12 _ _ _ (sd.keep hk) s12).mono ?_; rintro e u2 ⟨rfl, q3, rfl⟩; rw [decide_refl]; replace hk := below_drewN hk q3) | (go_at_call 37; refine (rEnd_any a n c xs _ ((h1.keep BW).keep hk) hn (fun j => by have := H5.out j; omega) V D Q3.out Q4.out).mono ?_; rintro e u4 ⟨rfl, hs3⟩; replace hk := step_of hk hs3))
  have hkd : Below U.heap.size U u4.drew := hk.trans ((Below.refl _ _).drew.mono hk.size)
  replace y1 := blk_keep y1 hkd
  replace BW := BW.trans (hkd.mono BW.size)
  replace sv := sv.keep hkd
  replace sd := sd.keep hkd
  clear f0 f1 f2 f3 hk hs1 hs2 hs3 s11 s12 x1
  obtain ⟨bv, ov, rfl, hcv⟩ := sv.at_ hn0
  obtain ⟨bd, od, rfl, hcd⟩ := sd.at_ hn0
  have ev := hcv (n - 1) (by omega)
  have ed := hcd (n - 1) (by omega)
  rw [HLV.out] at ev
  rw [HLD.out] at ed
  have hn1 : ((n : Int) - 1).toNat = n - 1 := by omega
  have hn2 : (0 : Int) ≤ (n : Int) - 1 := by omega
  have hn3 : (n : Int) - 1 < (n : Int) := by omega
  clear hcv hcd
  refine Calmly.wp_region_mix 19 (.fl 0 <| .fl 1 <| .fl 2 <| .fl 3 <| .fl 4 <| .fl 5 <| .fl 6 <| .fl 7 <| .fl 8 <| .fl 9 <| .gl 10 <| .gl 11 <| .gl 12 <| .gl 13 <| .gl 14 <| .gl 15 <| .gl 16 <| .gl 17 <| .gl 18 <| .tail [19, 20]) (by kernel_rfl) (by kernel_rfl) ?_
  generalize u4.drew = Z at y1 BW sv sd ev ed ⊢
  have f2 := cell_block y1 0
  have f3 := cell_block y1 1
  have hk := Below.refl Z.heap.size Z
  go_wp2_with (first | ((with_reducible refine Calmly.is_fl ?_); refine Calmly.mix_fl rfl ?_ (fun _ _ => ?_); (first | exact .move _ | exact .load _ _ | exact .fieldAddr _ _ _ (by kernel_rfl) | exact .assign _ | exact .binOp _ _ _ _ _ rfl | exact .indexAddr _ _ _ | exact .len _ _ (by kernel_rfl) | exact .field _ _ _ | exact .extract _ _ | exact .pick _ _ _ | exact .build _ _ | exact .slice _ _ _ _ _ | exact .unOp _ _ _ rfl | exact .index _ _ _ | exact .max _ _ _ rfl rfl | exact .min _ _ _ rfl rfl)) | ((with_reducible refine Calmly.is_gl ?_); refine Calmly.mix_gl rfl rfl rfl ?_; first | ((first | with_reducible refine Calmly.gl_tt ?_ (fun _ _ => ?_) | with_reducible refine Calmly.gl_ff ?_ (fun _ _ => ?_)); (first | exact .move _ | exact .load _ _ | exact .fieldAddr _ _ _ (by kernel_rfl) | exact .assign _ | exact .binOp _ _ _ _ _ rfl | exact .indexAddr _ _ _ | exact .len _ _ (by kernel_rfl) | exact .field _ _ _ | exact .extract _ _ | exact .pick _ _ _ | exact .build _ _ | exact .slice _ _ _ _ _ | exact .unOp _ _ _ rfl | exact .index _ _ _ | exact .max _ _ _ rfl rfl | exact .min _ _ _ rfl rfl)) | with_reducible refine Calmly.gl_tf (fun _ _ => ?_) | with_reducible refine Calmly.gl_ft (fun _ _ => ?_)) | ((with_reducible refine Calmly.is_eff ?_); refine Calmly.mix_eff rfl (fun _ _ => ?_)) | ((with_reducible refine Calmly.is_gf ?_); refine Calmly.mix_gf rfl rfl rfl ?_; first | with_reducible refine Calmly.gf_tt (fun _ _ => ?_) | with_reducible refine Calmly.gf_ff (fun _ _ => ?_) | with_reducible refine Calmly.gf_tf (kept_of hk) (fun _ _ => ?_) | with_reducible refine Calmly.gf_ft (kept_of hk) (fun _ _ => ?_)) | ((with_reducible refine Calmly.is_tail ?_); first | refine Calmly.mix_tail_nil ?_ | refine Calmly.mix_tail rfl (fun _ _ => ?_)) | ((with_reducible refine Calmly.is_kept ?_); refine ⟨kept_of hk, ?_⟩) | (with_reducible refine Calmly.mix_alt ?_ ?_))
  go_ret
  exact ⟨rfl, BW⟩
end Go.Proofs.Ytiibdndchkbefaa

namespace Go.Proofs.Ytiibdndchkbefaa
open Go.RowKit
open Calmly (Kept)


theorem mt_true {good : List Int → Bool} {l : List (List Int)} {s : List Int × Bool} (h : s.2 = true) : (l.foldl (mtStep good) s).2 = true := by
  induction l generalizing s with
  | nil => exact h
  | cons t l ih =>
    rw [List.foldl_cons]
    refine ih ?_
    unfold mtStep
    split
    · rfl
    · exact h
theorem mt_false_s {good : List Int → Bool} {l : List (List Int)} {s : List Int × Bool} (h : (l.foldl (mtStep good) s).2 = false) : l.foldl (mtStep good) s = s := by
  induction l generalizing s with
  | nil => rfl
  | cons t l ih =>
    rw [List.foldl_cons] at h ⊢
    have e : mtStep good s t = s := by
      by_cases hc : good t = true ∧ (s.2 = true → szs t < szs s.1)
      · have e1 : mtStep good s t = (t, true) := by unfold mtStep; rw [if_pos hc]
        rw [e1] at h
        have := mt_true (good := good) (l := l) (s := (t, true)) rfl
        rw [h] at this
        cases this
      · unfold mtStep
        rw [if_neg hc]
    rw [e] at h ⊢
    exact ih h
theorem mt_false {good : List Int → Bool} {k : Nat} {sb : List Int} (h : mtF good k = (sb, false)) : sb = [] := by
  have h1 : mtF good k = ([], false) := mt_false_s (by show (mtF good k).2 = false; rw [h])
  rw [h] at h1
  exact congrArg Prod.fst h1

set_option maxRecDepth 100000 in
set_option maxHeartbeats 4000000 in
theorem MotionMatches_walk (step : Int) (a : Option Addr) (n c : Nat) (xs : List Int) (wa : Option Addr) (wn wc : Nat) (ws : List (List Int)) (ba : Option Addr) (bn bc : Nat) (l : List Four) (w : World) (h1 : SI w a n c xs) (h2 : SW w wa wn wc ws) (h3 : SB w ba bn bc l) :
    Calls Try.prog 3 #[.agg #[.int .i64 step, .slice a n c], .slice wa wn wc, .slice ba bn bc] w fun e w' => e = .returned (.bool true) ∧ Below w.heap.size w w' := by
  have hA : ∀ (A : World) (o : Obj), Below A.heap.size A (A.alloc o) := fun A o => (Below.refl _ _).alloc (Nat.le_refl _) _
  obtain ⟨l1, l2⟩ : n ≤ xs.length ∧ xs.length ≤ n := by have := h1.len; omega
  obtain ⟨k1, k2⟩ : wn ≤ ws.length ∧ ws.length ≤ wn := by have := h2.len; omega
  obtain ⟨j1, j2⟩ : bn ≤ l.length ∧ l.length ≤ bn := by have := h3.len; omega
  have m1 := h1.max
  have c1 := h1.cap
  have m2 := h2.max
  have c2 := h2.cap
  have m3 := h3.max
  have c3 := h3.cap
  have x1 := alloc_new w (.cells #[.int .i64 step, .slice a n c] 24)
  have BW := hA w (.cells #[.int .i64 step, .slice a n c] 24)
  go_enter Try.func3, Try.ntmps3
  go_wp2_with fail
  refine (awake_any _).mono ?_
  rintro e w1 ⟨rfl, hs⟩
  replace x1 := blk_keep x1 hs
  replace BW := BW.trans (hs.mono BW.size)
  clear hs
  have f0 := cell_block x1 0
  have f1 := cell_block x1 1
  by_cases hq : 12 < n ∧ n ≤ 24
  · obtain ⟨hq1, hq2⟩ := hq
    have i1 : (12 : Int) < (n : Int) := by omega
    have i2 : (n : Int) ≤ 24 := by omega
    go_wp2_with fail
    go_ret
    exact ⟨rfl, BW⟩
  have hq3 : n ≤ 12 ∨ 24 < n := by omega
  clear hq
  rcases hq3 with hq3 | hq3
  · have i1 : (n : Int) ≤ 12 := by omega
    go_wp2_with fail
    refine (few_any step a n c _ c1 m1).mono ?_
    rintro e w2 ⟨rfl, hs⟩
    replace x1 := blk_keep x1 hs; replace BW := BW.trans (hs.mono BW.size); clear hs f0 f1; have f0 := cell_block x1 0; have f1 := cell_block x1 1
    by_cases hn : n ≤ 26
    case neg =>
      rw [show decide (n ≤ 26) = false from by simpa using hn]
      go_wp2_with fail
      go_ret
      exact ⟨rfl, BW⟩
    rw [show decide (n ≤ 26) = true from by simpa using hn]
    obtain ⟨R, hR⟩ : ∃ R, (decide (wn ≤ 5) && ws.all (fun x => decide (x.length ≤ 26))) = R := ⟨_, rfl⟩
    have HR := Lib.hid hR
    clear hR
    go_wp2_with fail
    refine (fewWaves_any wa wn wc ws _ (h2.keep BW) R HR.out).mono ?_
    rintro e w3 ⟨rfl, rfl⟩
    cases R
    · go_wp2_with fail
      go_ret
      exact ⟨rfl, BW⟩
    by_cases hb : 8 < bn
    · have i3 : (8 : Int) < (bn : Int) := by omega
      go_wp2_with fail
      go_ret
      exact ⟨rfl, BW⟩
    have i3 : (bn : Int) ≤ 8 := by omega
    have hfw : wn ≤ 5 ∧ ∀ i, i < wn → (ws[i]?.getD []).length ≤ 1000000 := by
      have h := HR.out
      rw [Bool.and_eq_true] at h
      refine ⟨of_decide_eq_true h.1, fun i hi => ?_⟩
      have := (List.all_eq_true.1 h.2) (ws[i]?.getD []) (by
        have : i < ws.length := by omega
        rw [List.getElem?_eq_getElem this]
        exact List.getElem_mem this)
      have := of_decide_eq_true this
      omega
    obtain ⟨hw5, hfw⟩ := hfw
    have HFW := Lib.hid hfw
    obtain ⟨F, hF⟩ : ∃ F, firstE [openE step xs ws, bandE l] = F := ⟨_, rfl⟩
    obtain ⟨X, E, hX, hX'⟩ : ∃ (X : List Int) (E : Int), (F ≠ 0 → X = [] ∧ E = F) ∧ (F = 0 → X = (mtF (goodM xs ws l) wn).1 ∧ E = unlessE (mtF (goodM xs ws l) wn).2 12) := by
      by_cases h : F = 0
      · exact ⟨_, _, fun hh => absurd h hh, fun _ => ⟨rfl, rfl⟩⟩
      · exact ⟨_, _, fun _ => ⟨rfl, rfl⟩, fun hh => absurd hh h⟩
    have HF := Lib.hid hF
    have HX := Lib.hid hX
    have HX' := Lib.hid hX'
    clear hF hX hX' hfw hb
    go_wp2_with fail
    refine (copy_any step a n c xs _ (h1.keep BW) (by omega)).mono ?_
    rintro e w4 ⟨a4, c4, rfl, s4, hs⟩
    replace x1 := blk_keep x1 hs; replace BW := BW.trans (hs.mono BW.size); clear hs f0 f1; have f0 := cell_block x1 0; have f1 := cell_block x1 1
    go_wp2_with fail
    refine (copyLists_any wa wn wc ws _ (h2.keep BW) (by omega) HFW.out).mono ?_
    rintro e w5 ⟨a5, c5, rfl, s5, hs⟩
    replace s4 := s4.keep hs
    replace x1 := blk_keep x1 hs; replace BW := BW.trans (hs.mono BW.size); clear hs f0 f1; have f0 := cell_block x1 0; have f1 := cell_block x1 1
    go_wp2_with fail
    refine (copyBand_any ba bn bc l _ (h3.keep BW) (by omega)).mono ?_
    rintro e w6 ⟨a6, c6, rfl, s6, hs⟩
    replace s4 := s4.keep hs
    replace s5 := s5.keep hs
    replace x1 := blk_keep x1 hs; replace BW := BW.trans (hs.mono BW.size); clear hs f0 f1; have f0 := cell_block x1 0; have f1 := cell_block x1 1
    go_wp2_with fail
    refine (MatchFor_any step a4 n c4 xs a5 wn c5 ws a6 bn c6 l _ s4 s5 s6 F E X HF.out HX.out HX'.out).mono ?_
    rintro e w7 ⟨aX, nX, cX, rfl, sX, hs⟩
    clear s4 s5 s6
    replace x1 := blk_keep x1 hs; replace BW := BW.trans (hs.mono BW.size); clear hs f0 f1; have f0 := cell_block x1 0; have f1 := cell_block x1 1
    obtain ⟨rE, hrE⟩ : ∃ x, (recF step xs).2 = x := ⟨_, rfl⟩
    have HRE := Lib.hid hrE
    go_wp2_with fail
    refine (rRecordErr_any step a n c xs _ (h1.keep BW) rE HRE.out).mono ?_
    rintro e w8 ⟨rfl, hs⟩
    replace sX := sX.keep hs
    replace x1 := blk_keep x1 hs; replace BW := BW.trans (hs.mono BW.size); clear hs f0 f1; have f0 := cell_block x1 0; have f1 := cell_block x1 1
    have hop : openE step xs ws = if rE = 0 then wavesE xs.length ws else rE := by unfold openE; rw [hrE]
    clear hrE
    by_cases hz : rE = 0
    case neg =>
      have hFe : F = rE := by rw [← HF.out, hop, if_neg hz, firstE, if_neg hz]
      obtain ⟨q1, q2⟩ := HX.out (by rw [hFe]; exact hz)
      have b1 : (rE == 0) = false := by simpa using hz
      have b2 : (rE != 0) = true := by simpa using hz
      have q3 : E = rE := by rw [q2, hFe]
      subst q1 q3
      obtain rfl : nX = 0 := sX.len
      clear hz hop hFe q2
      go_wp2_with fail
      go_ret
      exact ⟨rfl, BW⟩
    subst hz
    rw [if_pos rfl] at hop
    obtain ⟨r1, r2, r3, r4, r5⟩ := recF_ok HRE.out
    have hn24 : n ≤ 24 := by omega
    have hn0 : 0 < n := by omega
    have H5 := Lib.hid r5
    rw [show xs.length = n from by omega] at hop
    obtain ⟨wE, hwE⟩ : ∃ x, wavesE n ws = x := ⟨_, rfl⟩
    rw [hwE] at hop
    have HOP := Lib.hid hop
    have HWE := Lib.hid hwE
    clear r1 r2 r3 r4 r5 hop hwE
    go_wp2_with fail
    refine (rWavesErr_any n wa wn wc ws _ (h2.keep BW) hn24 wE HWE.out).mono ?_
    rintro e w9 ⟨rfl, hs⟩
    replace sX := sX.keep hs
    replace x1 := blk_keep x1 hs; replace BW := BW.trans (hs.mono BW.size); clear hs f0 f1; have f0 := cell_block x1 0; have f1 := cell_block x1 1
    by_cases hz : wE = 0
    case neg =>
      have hFe : F = wE := by rw [← HF.out, HOP.out, firstE, if_neg hz]
      obtain ⟨q1, q2⟩ := HX.out (by rw [hFe]; exact hz)
      have b1 : (wE == 0) = false := by simpa using hz
      have b2 : (wE != 0) = true := by simpa using hz
      have q3 : E = wE := by rw [q2, hFe]
      subst q1 q3
      obtain rfl : nX = 0 := sX.len
      clear hz hFe q2
      go_wp2_with fail
      go_ret
      exact ⟨rfl, BW⟩
    subst hz
    obtain ⟨bE, hbE⟩ : ∃ x, bandE l = x := ⟨_, rfl⟩
    have hFb : F = bE := by
      rw [← HF.out, HOP.out, firstE, if_pos rfl, firstE, hbE]
      split
      · rename_i h; rw [h]; rfl
      · rfl
    have HBE := Lib.hid hbE
    clear hbE
    subst hFb
    go_wp2_with fail
    refine (rBandErr_any ba bn bc l _ (h3.keep BW) F HBE.out).mono ?_
    rintro e w10 ⟨rfl, hs⟩
    replace sX := sX.keep hs
    replace x1 := blk_keep x1 hs; replace BW := BW.trans (hs.mono BW.size); clear hs f0 f1; have f0 := cell_block x1 0; have f1 := cell_block x1 1
    by_cases hz : F = 0
    case neg =>
      obtain ⟨q1, q2⟩ := HX.out hz
      have b2 : (F != 0) = true := by simpa using hz
      subst q1 q2
      obtain rfl : nX = 0 := sX.len
      clear hz
      go_wp2_with fail
      go_ret
      exact ⟨rfl, BW⟩
    subst hz
    obtain ⟨q1, q2⟩ := HX'.out rfl
    have hu6 := (wavesE_ok HWE.out).2
    have hu7 := wavesE_bd HWE.out
    have hu8 := bandE_ok HBE.out
    have HW := Lib.hid hu7
    have HL : Hid (∀ i, i < ws.length → (ws[i]?.getD []).length = n) := Lib.hid (fun i hi => (wavE_ok (hu6 i hi)).1)
    have HO : Hid (∀ k, k < l.length → oscE (l[k]?.getD four0).1 = 0) := Lib.hid (fun k hk => (bndE_ok (hu8.2.2 k hk)).1)
    obtain ⟨st, hst⟩ : ∃ st, mtF (goodM xs ws l) wn = st := ⟨_, rfl⟩
    rw [hst] at q1 q2
    obtain ⟨sb, sf⟩ := st
    dsimp only at q1 q2
    subst q1 q2
    have HST := Lib.hid hst
    clear hu6 hu7 hu8 hst
    go_wp2_with fail
    refine (rMatch_any a n c xs wa wn wc ws ba bn bc l _ (h1.keep BW) (h2.keep BW) (h3.keep BW) hn0 hn hw5 (by omega) H5.out HL.out HW.out HO.out).mono ?_
    rw [HST.out]
    rintro e w11 ⟨aY, nY, cY, rfl, sY, hs⟩
    replace sX := sX.keep hs
    replace x1 := blk_keep x1 hs; replace BW := BW.trans (hs.mono BW.size); clear hs f0 f1; have f0 := cell_block x1 0; have f1 := cell_block x1 1
    dsimp only at sY
    cases sf
    · have hsb : X = [] := mt_false HST.out
      subst hsb
      obtain rfl : nX = 0 := sX.len
      go_wp2_with fail
      go_ret
      exact ⟨rfl, BW⟩
    · go_wp2_with fail
      refine (ints_any aX aY nX nY cX cY X X _ sX sY).mono ?_
      rintro e w12 ⟨rfl, q, rfl⟩
      rw [decide_refl]
      go_wp2_with fail
      go_ret
      exact ⟨rfl, below_drewN BW q⟩
  · have i1 : (12 : Int) < (n : Int) := by omega
    have i2 : (24 : Int) < (n : Int) := by omega
    go_wp2_with fail
    refine (few_any step a n c _ c1 m1).mono ?_
    rintro e w2 ⟨rfl, hs⟩
    replace x1 := blk_keep x1 hs; replace BW := BW.trans (hs.mono BW.size); clear hs f0 f1; have f0 := cell_block x1 0; have f1 := cell_block x1 1
    by_cases hn : n ≤ 26
    case neg =>
      rw [show decide (n ≤ 26) = false from by simpa using hn]
      go_wp2_with fail
      go_ret
      exact ⟨rfl, BW⟩
    rw [show decide (n ≤ 26) = true from by simpa using hn]
    obtain ⟨R, hR⟩ : ∃ R, (decide (wn ≤ 5) && ws.all (fun x => decide (x.length ≤ 26))) = R := ⟨_, rfl⟩
    have HR := Lib.hid hR
    clear hR
    go_wp2_with fail
    refine (fewWaves_any wa wn wc ws _ (h2.keep BW) R HR.out).mono ?_
    rintro e w3 ⟨rfl, rfl⟩
    cases R
    · go_wp2_with fail
      go_ret
      exact ⟨rfl, BW⟩
    by_cases hb : 8 < bn
    · have i3 : (8 : Int) < (bn : Int) := by omega
      go_wp2_with fail
      go_ret
      exact ⟨rfl, BW⟩
    have i3 : (bn : Int) ≤ 8 := by omega
    have hfw : wn ≤ 5 ∧ ∀ i, i < wn → (ws[i]?.getD []).length ≤ 1000000 := by
      have h := HR.out
      rw [Bool.and_eq_true] at h
      refine ⟨of_decide_eq_true h.1, fun i hi => ?_⟩
      have := (List.all_eq_true.1 h.2) (ws[i]?.getD []) (by
        have : i < ws.length := by omega
        rw [List.getElem?_eq_getElem this]
        exact List.getElem_mem this)
      have := of_decide_eq_true this
      omega
    obtain ⟨hw5, hfw⟩ := hfw
    have HFW := Lib.hid hfw
    obtain ⟨F, hF⟩ : ∃ F, firstE [openE step xs ws, bandE l] = F := ⟨_, rfl⟩
    obtain ⟨X, E, hX, hX'⟩ : ∃ (X : List Int) (E : Int), (F ≠ 0 → X = [] ∧ E = F) ∧ (F = 0 → X = (mtF (goodM xs ws l) wn).1 ∧ E = unlessE (mtF (goodM xs ws l) wn).2 12) := by
      by_cases h : F = 0
      · exact ⟨_, _, fun hh => absurd h hh, fun _ => ⟨rfl, rfl⟩⟩
      · exact ⟨_, _, fun _ => ⟨rfl, rfl⟩, fun hh => absurd hh h⟩
    have HF := Lib.hid hF
    have HX := Lib.hid hX
    have HX' := Lib.hid hX'
    clear hF hX hX' hfw hb
    go_wp2_with fail
    refine (copy_any step a n c xs _ (h1.keep BW) (by omega)).mono ?_
    rintro e w4 ⟨a4, c4, rfl, s4, hs⟩
    replace x1 := blk_keep x1 hs; replace BW := BW.trans (hs.mono BW.size); clear hs f0 f1; have f0 := cell_block x1 0; have f1 := cell_block x1 1
    go_wp2_with fail
    refine (copyLists_any wa wn wc ws _ (h2.keep BW) (by omega) HFW.out).mono ?_
    rintro e w5 ⟨a5, c5, rfl, s5, hs⟩
    replace s4 := s4.keep hs
    replace x1 := blk_keep x1 hs; replace BW := BW.trans (hs.mono BW.size); clear hs f0 f1; have f0 := cell_block x1 0; have f1 := cell_block x1 1
    go_wp2_with fail
    refine (copyBand_any ba bn bc l _ (h3.keep BW) (by omega)).mono ?_
    rintro e w6 ⟨a6, c6, rfl, s6, hs⟩
    replace s4 := s4.keep hs
    replace s5 := s5.keep hs
    replace x1 := blk_keep x1 hs; replace BW := BW.trans (hs.mono BW.size); clear hs f0 f1; have f0 := cell_block x1 0; have f1 := cell_block x1 1
    go_wp2_with fail
    refine (MatchFor_any step a4 n c4 xs a5 wn c5 ws a6 bn c6 l _ s4 s5 s6 F E X HF.out HX.out HX'.out).mono ?_
    rintro e w7 ⟨aX, nX, cX, rfl, sX, hs⟩
    clear s4 s5 s6
    replace x1 := blk_keep x1 hs; replace BW := BW.trans (hs.mono BW.size); clear hs f0 f1; have f0 := cell_block x1 0; have f1 := cell_block x1 1
    obtain ⟨rE, hrE⟩ : ∃ x, (recF step xs).2 = x := ⟨_, rfl⟩
    have HRE := Lib.hid hrE
    go_wp2_with fail
    refine (rRecordErr_any step a n c xs _ (h1.keep BW) rE HRE.out).mono ?_
    rintro e w8 ⟨rfl, hs⟩
    replace sX := sX.keep hs
    replace x1 := blk_keep x1 hs; replace BW := BW.trans (hs.mono BW.size); clear hs f0 f1; have f0 := cell_block x1 0; have f1 := cell_block x1 1
    have hop : openE step xs ws = if rE = 0 then wavesE xs.length ws else rE := by unfold openE; rw [hrE]
    clear hrE
    by_cases hz : rE = 0
    case neg =>
      have hFe : F = rE := by rw [← HF.out, hop, if_neg hz, firstE, if_neg hz]
      obtain ⟨q1, q2⟩ := HX.out (by rw [hFe]; exact hz)
      have b1 : (rE == 0) = false := by simpa using hz
      have b2 : (rE != 0) = true := by simpa using hz
      have q3 : E = rE := by rw [q2, hFe]
      subst q1 q3
      obtain rfl : nX = 0 := sX.len
      clear hz hop hFe q2
      go_wp2_with fail
      go_ret
      exact ⟨rfl, BW⟩
    exfalso
    subst hz
    have := (recF_ok HRE.out).2.1
    omega
end Go.Proofs.Ytiibdndchkbefaa

namespace Go.Proofs.Ytiibdndchkbefaa
open Go.ChangeShapes Go.WideShapes Go.ChangeAt Go.RowKit

set_option maxRecDepth 100000 in
set_option maxHeartbeats 1000000 in
theorem MotionMatches_lifted (os : Os) (started : os.Started) (H : Type) (enc : TypeId × Value → H) :
    ReturnsInHanded {} Try.checked os 3 .any (Rows.motionMatchesSpec.pre6 enc Try.prog Try.f3 Rows.motionMatchesRow.domain false) (Rows.motionMatchesSpec.post enc Try.prog Try.f3 false true false false) := by
  refine returnsInHanded_of_change (C := Try.checked) Try.own' started (by kernel_rfl) Try.func3
    (ChangeSpec.witness6 (enc := enc) (C := Try.checked) false ⟨#[], #[.agg #[.int .i64 0, .slice none 0 0], .slice none 0 0, .slice none 0 0], []⟩ 8 (by kernel_rfl) (by kernel_rfl) (by kernel_rfl) (by kernel_rfl)) ?_
  intro W base args ds gs before hval0 hW _ _
  have hval : ∀ (j : Nat) t v, Try.f3.params[j]? = some t → args[j]? = some v → Value.okWide Try.prog W .any base t v := hval0
  have hW' := hW
  obtain ⟨p, q, hA0, hV, rfl, _, _⟩ := hW
  have hA : DataW.TrodAll enc Try.prog W 0 (fun _ => true) true Try.f3.params.toList args.toList ds p := hA0
  rw [Try.params3] at hA hval
  obtain ⟨v0, v1, v2, d0, d1, d2, p0, p1, p2, rfl, rfl, rfl, h0, h1, h2⟩ := trodAll_three hA
  obtain ⟨rfl, rfl⟩ := trodVars_none hV
  clear hA0 hA hval0
  have hlt : ∀ x ∈ p0 ++ p1 ++ p2, x.block < W.heap.size := fun x hx => by simpa using hW'.lt x (by simpa using hx)
  obtain ⟨s0, a0, n0, c0, l0, rfl, hw0, hs0, hw0'⟩ := open_record (hval 0 24 v0 rfl rfl) h0
  obtain ⟨a1, n1, c1, l1, rfl, hs1, hw1⟩ := open_lists (hval 1 25 v1 rfl rfl) h1
  obtain ⟨a2, n2, c2, l2, rfl, hs2, hw2⟩ := open_bands (hval 2 26 v2 rfl rfl) h2
  refine (MotionMatches_walk s0 a0 n0 c0 l0 a1 n1 c1 l1 a2 n2 c2 l2 W hs0 hs1 hs2).mono fun e W' ⟨he, hb⟩ => ?_
  subst he
  exact ⟨_, rfl, _, _, _, [], _, [], hW', trodAll_mk1 (shut_bool Try.underlying4 _),
    trodAll_mk3 (Below.trod Try.laidOut' (by kernel_rfl) (of_decide_eq_true (by kernel_rfl)) h0 hb (fun x hx => hlt x (List.mem_append_left _ (List.mem_append_left _ hx)))) (Below.trod Try.laidOut' (by kernel_rfl) (of_decide_eq_true (by kernel_rfl)) h1 hb (fun x hx => hlt x (List.mem_append_left _ (List.mem_append_right _ hx)))) (Below.trod Try.laidOut' (by kernel_rfl) (of_decide_eq_true (by kernel_rfl)) h2 hb (fun x hx => hlt x (List.mem_append_right _ hx))),
    rfl, hb.frame _, fun h => by cases h⟩

theorem MotionMatches_holds : Rows.MotionMatchesSaid :=
  OpenClaim.holds_of_wide 3 Try.f3 rfl rfl rfl rfl rfl rfl rfl ⟨rfl, rfl, rfl, rfl, rfl⟩ rfl rfl rfl rfl rfl (by kernel_rfl) Try.func3 (by kernel_rfl)
    (of_decide_eq_true (by kernel_rfl)) (by unfold Func.isWrapper; first | (rw [if_pos (by decide +kernel)]; kernel_rfl) | (rw [if_neg (by decide +kernel)]; exact ⟨rfl, rfl⟩))
    (fun os started H enc _ => MotionMatches_lifted os started H enc)
#print axioms MotionMatches_holds
end Go.Proofs.Ytiibdndchkbefaa
