/- Contracts of chapter 2: the reference's added samples, and its match. Plain law of chapter 2: the opposite record, the later one, a record of zeros, and an oscillator that is free. -/
import Derived.Test.YtiibdndchkbefaaK12
namespace Go.Proofs.Ytiibdndchkbefaa
open Go.RowKit
open Calmly (Kept)

theorem badS_some {xs : List Int} {i k : Nat} (h : badS xs i = some k) : ∃ j, j < xs.length ∧ smp (xs[j]?.getD 0) = false := by
  induction xs generalizing i with
  | nil => cases h
  | cons x l ih =>
    rw [badS] at h
    split at h
    · obtain ⟨j, hj, hs⟩ := ih h
      exact ⟨j + 1, by simp; omega, by simpa using hs⟩
    · rename_i hx
      exact ⟨0, by simp, by simpa using hx⟩
theorem badS_gs (xs : List Int) : decide (gsT xs xs.length ≤ 1000) = (badS xs 0).isNone := by
  rw [Bool.eq_iff_iff, decide_eq_true_iff, gsT_le xs 1000 (by omega)]
  constructor
  · intro h
    cases hb : badS xs 0 with
    | none => rfl
    | some k =>
      obtain ⟨j, hj, hs⟩ := badS_some hb
      have := h j hj
      rcases wIn_false.1 hs with h2 | h2 <;> omega
  · intro h j _
    exact badS_none (Option.isNone_iff_eq_none.1 h) j

set_option maxRecDepth 100000 in
set_option maxHeartbeats 2000000 in
theorem rAdded_any (a : Option Addr) (n c : Nat) (xs : List Int) (b : Option Addr) (m d : Nat) (ws : List (List Int)) (t : Option Addr) (e : Nat) (ts : List Int) (w : World) (h1 : SI w a n c xs) (h2 : SW w b m d ws) (h3 : SI w t m e ts) (hn0 : 0 < n) (hn : n ≤ 26) (hm : m ≤ 5)
    (hx : ∀ j : Nat, -1000 ≤ xs[j]?.getD 0 ∧ xs[j]?.getD 0 ≤ 1000) (hl : ∀ i, i < ws.length → (ws[i]?.getD []).length = n) (hw : ∀ i t : Nat, -1000 ≤ (ws[i]?.getD [])[t]?.getD 0 ∧ (ws[i]?.getD [])[t]?.getD 0 ≤ 1000) (ht : ∀ j : Nat, -2 ≤ ts[j]?.getD 0 ∧ ts[j]?.getD 0 ≤ 2) (G : Bool) (hG : decide (gsT (adTo xs ws ts m) n ≤ 1000) = G) :
    Calls Try.prog 61 #[.slice a n c, .slice b m d, .slice t m e] w fun r w' => ∃ a' n' c', r = .returned (.tuple #[.slice a' n' c', .bool G]) ∧ (G = true → SI w' a' n' c' (adTo xs ws ts m)) ∧ n' ≤ c' ∧ c' ≤ 9223372036854775807 ∧ Below w.heap.size w w' := by
  obtain ⟨l1, l2⟩ : n ≤ xs.length ∧ xs.length ≤ n := by have := h1.len; omega
  obtain ⟨k1, k2⟩ : m ≤ ws.length ∧ ws.length ≤ m := by have := h2.len; omega
  have m1 := h1.max
  have c1 := h1.cap
  have m2 := h2.max
  have c2 := h2.cap
  have m3 := h3.max
  have c3 := h3.cap
  have hgb := badS_gs (adTo xs ws ts m)
  rw [adTo_len, show xs.length = n from by omega, hG] at hgb
  have HX := Lib.hid hx
  have HL := Lib.hid hl
  have HW := Lib.hid hw
  have HT := Lib.hid ht
  have HG := Lib.hid hgb
  clear hx hl hw ht hG hgb
  go_enter Try.func61, Try.ntmps61
  go_wp2_with fail
  refine (copyInts_any a n c xs _ h1 (by omega)).mono ?_
  rintro r w1 ⟨a1, c1', rfl, o1, hb1⟩
  obtain ⟨g, rfl, hg1, hg2⟩ := o1.at_ hn0
  have o0 : OwI w1 w.heap.size (some ⟨g, 0, none⟩) n c1' (adTo xs ws ts 0) := by rw [adTo_zero]; exact o1
  have m4 := o1.si.max
  have c4 := o1.si.cap
  clear o1
  go_wp2_with fail
  go_loopw [9] (fun i wr => ∃ k : Nat, k ≤ m ∧ i = .int .i64 k ∧ OwI wr w.heap.size (some ⟨g, 0, none⟩) n c1' (adTo xs ws ts k) ∧ Below w.heap.size w wr) (fun i _ => m - (intOf i).toNat)
  case atStart => exact ⟨0, by omega, rfl, o0, hb1⟩
  case round =>
    clear o0 hb1
    obtain ⟨k, hk, rfl, hown, hbr⟩ := hrel
    by_cases hlt : k < m
    · obtain ⟨bw, ow, rfl, hcw⟩ := h2.at_ (by omega)
      obtain ⟨aw, nw, cw, ew0, sw⟩ := hcw k hlt
      obtain ⟨q1, q2⟩ : nw ≤ n ∧ n ≤ nw := by
        have h5 := sw.len
        have h6 := HL.out k (by omega)
        omega
      obtain rfl : nw = n := by omega
      have m5 := sw.max
      have c5 := sw.cap
      clear hcw q1 q2
      have hi : (k : Int) < (m : Int) := by omega
      have hi0 : (0 : Int) ≤ (k : Int) := by omega
      have hown0 : OwI wr w.heap.size (some ⟨g, 0, none⟩) nw c1' (adMid xs ws ts k 0) := by rw [adMid_zero]; exact hown
      have hbr0 := hbr
      have hrz := hbr.size
      go_wp2_with fail
      go_loopw [10] (fun j wz => ∃ p : Nat, p ≤ nw ∧ j = .int .i64 p ∧ OwI wz w.heap.size (some ⟨g, 0, none⟩) nw c1' (adMid xs ws ts k p) ∧ Below w.heap.size w wz) (fun j _ => nw - (intOf j).toNat)
      case atStart => exact ⟨0, by omega, rfl, hown0, hbr0⟩
      case round =>
        clear hown hown0 hbr hbr0
        obtain ⟨p, hp, rfl, hown, hbz⟩ := hrel
        by_cases hpl : p < nw
        · have hj : (p : Int) < (nw : Int) := by omega
          have hj0 : (0 : Int) ≤ (p : Int) := by omega
          have ew := cell_keep ew0 hbz
          have ex := hown.cell p hpl
          rw [adMid_get xs ws ts k p (by omega)] at ex
          have fx := hown.free p
          obtain ⟨bx, ox, rfl, hcx⟩ := (sw.keep hbz).at_ hn0
          have e2 := hcx p hpl
          obtain ⟨bt, ot, rfl, hct⟩ := (h3.keep hbz).at_ (by omega)
          have e3 := hct k hlt
          obtain ⟨⟨n1, n2⟩, n3, n4⟩ := ad_nums HX.out HW.out HT.out p k (by omega)
          have st := hown.stored p (xs[p]?.getD 0 + adS ws ts p k + ts[k]?.getD 0 * (ws[k]?.getD [])[p]?.getD 0)
          rw [adMid_set xs ws ts k p (by omega)] at st
          have ST := Lib.hid st
          clear hcx hct st
          obtain ⟨x, hxx⟩ : ∃ x, xs[p]?.getD 0 + adS ws ts p k = x := ⟨_, rfl⟩
          obtain ⟨y, hyy⟩ : ∃ y, ts[k]?.getD 0 = y := ⟨_, rfl⟩
          obtain ⟨z, hzz⟩ : ∃ z, (ws[k]?.getD [])[p]?.getD 0 = z := ⟨_, rfl⟩
          rw [hxx] at ex n1 n2 ST
          rw [hyy] at e3 n3 n4 ST
          rw [hzz] at e2 n3 n4 ST
          clear hxx hyy hzz
          go_wp2_with fail
          refine Calmly.wp_region_mix 19 (.fl 0 <| .fl 1 <| .fl 2 <| .fl 3 <| .fl 4 <| .fl 5 <| .fl 6 <| .fl 7 <| .fl 8 <| .fl 9 <| .fl 10 <| .fl 11 <| .fl 12 <| .fl 13 <| .fl 14 <| .fl 15 <| .fl 16 <| .fl 17 <| .fl 18 <| .tail [19, 20]) (by kernel_rfl) (by kernel_rfl) ?_
          have hk := Below.refl wr.drew.heap.size wr.drew
          go_wp2_with (first | ((with_reducible refine Calmly.is_fl ?_); refine Calmly.mix_fl rfl ?_ (fun _ _ => ?_); (first | exact .move _ | exact .load _ _ | exact .fieldAddr _ _ _ (by kernel_rfl) | exact .assign _ | exact .binOp _ _ _ _ _ rfl | exact .indexAddr _ _ _ | exact .len _ _ (by kernel_rfl) | exact .field _ _ _ | exact .extract _ _ | exact .pick _ _ _ | exact .build _ _ | exact .slice _ _ _ _ _ | exact .unOp _ _ _ rfl | exact .index _ _ _ | exact .max _ _ _ rfl rfl | exact .min _ _ _ rfl rfl)) | ((with_reducible refine Calmly.is_gl ?_); refine Calmly.mix_gl rfl rfl rfl ?_; first | ((first | with_reducible refine Calmly.gl_tt ?_ (fun _ _ => ?_) | with_reducible refine Calmly.gl_ff ?_ (fun _ _ => ?_)); (first | exact .move _ | exact .load _ _ | exact .fieldAddr _ _ _ (by kernel_rfl) | exact .assign _ | exact .binOp _ _ _ _ _ rfl | exact .indexAddr _ _ _ | exact .len _ _ (by kernel_rfl) | exact .field _ _ _ | exact .extract _ _ | exact .pick _ _ _ | exact .build _ _ | exact .slice _ _ _ _ _ | exact .unOp _ _ _ rfl | exact .index _ _ _ | exact .max _ _ _ rfl rfl | exact .min _ _ _ rfl rfl)) | with_reducible refine Calmly.gl_tf (fun _ _ => ?_) | with_reducible refine Calmly.gl_ft (fun _ _ => ?_)) | ((with_reducible refine Calmly.is_eff ?_); refine Calmly.mix_eff rfl (fun _ _ => ?_)) | ((with_reducible refine Calmly.is_gf ?_); refine Calmly.mix_gf rfl rfl rfl ?_; first | with_reducible refine Calmly.gf_tt (fun _ _ => ?_) | with_reducible refine Calmly.gf_ff (fun _ _ => ?_) | with_reducible refine Calmly.gf_tf (kept_of hk) (fun _ _ => ?_) | with_reducible refine Calmly.gf_ft (kept_of hk) (fun _ _ => ?_)) | ((with_reducible refine Calmly.is_tail ?_); first | refine Calmly.mix_tail_nil ?_ | refine Calmly.mix_tail rfl (fun _ _ => ?_)) | ((with_reducible refine Calmly.is_kept ?_); refine ⟨kept_of hk, ?_⟩) | (with_reducible refine Calmly.mix_alt ?_ ?_))
          go_roundw
          case rel => exact ⟨p + 1, by omega, by go_num, ST.out.1.drew, hbz.trans ST.out.2.drew⟩
          case measure => simp [intOf]; omega
        · have hle : (nw : Int) ≤ (p : Int) := by omega
          go_wp2_with fail
          go_roundw
          case rel =>
            rw [adMid_all xs ws ts k p (by omega)] at hown
            exact ⟨k + 1, by omega, by go_num, hown, hbz⟩
          case measure => simp [intOf]; omega
    · have hle : (m : Int) ≤ (k : Int) := by omega
      obtain rfl : k = m := by omega
      have sa := hown.si
      obtain ⟨Y, hY⟩ : ∃ Y, adTo xs ws ts k = Y := ⟨_, rfl⟩
      rw [hY] at sa HG
      have HY := Lib.hid hY
      have hYl : Y.length = n := by rw [← hY, adTo_len]; omega
      have HYL := Lib.hid hYl
      clear hown hY hYl
      go_wp2_with fail
      go_loopw [11] (fun j wz => ∃ p : Nat, p ≤ n ∧ j = .int .i64 p ∧ badS Y 0 = badS (Y.drop p) p ∧ wz = wr) (fun j _ => n - (intOf j).toNat)
      case atStart => exact ⟨0, by omega, rfl, rfl, rfl⟩
      case round =>
        obtain ⟨p, hp, rfl, hbs, rfl⟩ := hrel
        have HBS := Lib.hid hbs
        clear hbs
        by_cases hpl : p < n
        · obtain ⟨bx, ox, hee, hcx⟩ := sa.at_ (by omega)
          cases hee
          have ex := hcx p hpl
          rw [Nat.zero_add] at ex
          clear hcx
          have hbd := badS_drop Y p (by rw [HYL.out]; exact hpl)
          obtain ⟨z, hzz⟩ : ∃ z, Y[p]?.getD 0 = z := ⟨_, rfl⟩
          rw [hzz] at ex hbd
          have HBD := Lib.hid hbd
          clear hbd hzz
          have hj : (p : Int) < (n : Int) := by omega
          have hj0 : (0 : Int) ≤ (p : Int) := by omega
          go_wp2_with fail
          refine (rIsSample_any _ _).mono ?_
          rintro e w2 ⟨rfl, rfl⟩
          cases ho : smp z
          · have hRE : G = false := by
              rw [HG.out, HBS.out, HBD.out, ho]
              rfl
            subst hRE
            go_wp2_with fail
            go_ret2
            exact ⟨none, 0, 0, rfl, (fun h => by cases h), by omega, by omega, hbr⟩
          · go_wp2_with fail
            go_roundw
            case rel => exact ⟨p + 1, by omega, by go_num, by rw [HBS.out, HBD.out, ho]; rfl, by first | rfl | trivial⟩
            case measure => simp [intOf]; omega
        · have hle : (n : Int) ≤ (p : Int) := by omega
          have hRE : G = true := by rw [HG.out, HBS.out, List.drop_eq_nil_of_le (by rw [HYL.out]; omega)]; rfl
          subst hRE
          go_wp2_with fail
          go_ret2
          exact ⟨_, n, c1', rfl, (by rw [HY.out]; exact sa), c4, m4, hbr⟩

set_option maxRecDepth 100000 in
set_option maxHeartbeats 4000000 in
theorem rMatch_any (a : Option Addr) (n c : Nat) (xs : List Int) (b : Option Addr) (m d : Nat) (ws : List (List Int)) (ba : Option Addr) (bn bc : Nat) (l : List Four) (w : World) (h1 : SI w a n c xs) (h2 : SW w b m d ws) (h3 : SB w ba bn bc l) (hn0 : 0 < n) (hn : n ≤ 26) (hm : m ≤ 5) (hbn : bn ≤ 1000)
    (hx : ∀ j : Nat, -1000 ≤ xs[j]?.getD 0 ∧ xs[j]?.getD 0 ≤ 1000) (hl : ∀ i, i < ws.length → (ws[i]?.getD []).length = n) (hw : ∀ i t : Nat, -1000 ≤ (ws[i]?.getD [])[t]?.getD 0 ∧ (ws[i]?.getD [])[t]?.getD 0 ≤ 1000) (ho : ∀ k, k < l.length → oscE (l[k]?.getD four0).1 = 0) :
    Calls Try.prog 24 #[.slice a n c, .slice b m d, .slice ba bn bc] w fun r w' => ∃ a' n' c', r = .returned (.tuple #[.slice a' n' c', .bool (mtF (goodM xs ws l) m).2]) ∧ SI w' a' n' c' (mtF (goodM xs ws l) m).1 ∧ Below w.heap.size w w' := by
  obtain ⟨l1, l2⟩ : n ≤ xs.length ∧ xs.length ≤ n := by have := h1.len; omega
  obtain ⟨k1, k2⟩ : m ≤ ws.length ∧ ws.length ≤ m := by have := h2.len; omega
  obtain ⟨j1, j2⟩ : bn ≤ l.length ∧ l.length ≤ bn := by have := h3.len; omega
  have m1 := h1.max
  have c1 := h1.cap
  have m2 := h2.max
  have c2 := h2.cap
  have m3 := h3.max
  have c3 := h3.cap
  have HX := Lib.hid hx
  have HL := Lib.hid hl
  have HW := Lib.hid hw
  have HO := Lib.hid ho
  clear hx hl hw ho
  go_enter Try.func24, Try.ntmps24
  go_wp2_with fail
  refine (choices_any m hm _).mono ?_
  rintro e w1 ⟨ca, cn, cc, rfl, sc, hb1⟩
  have hcn := sc.len
  have HCN := Lib.hid hcn
  have mc := sc.max
  have cc' := sc.cap
  clear hcn
  go_wp2_with fail
  go_loopw [8, 9, 11] (fun x y i wr => ∃ (k : Nat) (a' : Option Addr) (n' c' : Nat), i = .int .i64 k ∧ k ≤ cn ∧ x = .slice a' n' c' ∧ y = .bool (((allC m).take k).foldl (mtStep (goodM xs ws l)) ([], false)).2 ∧ SI wr a' n' c' (((allC m).take k).foldl (mtStep (goodM xs ws l)) ([], false)).1 ∧ (n' ≤ 5 ∧ ∀ j : Nat, -2 ≤ (((allC m).take k).foldl (mtStep (goodM xs ws l)) ([], false)).1[j]?.getD 0 ∧ (((allC m).take k).foldl (mtStep (goodM xs ws l)) ([], false)).1[j]?.getD 0 ≤ 2) ∧ Below w1.heap.size w1 wr) (fun _ _ i _ => cn - (intOf i).toNat)
  case atStart => exact ⟨0, none, 0, 0, rfl, by omega, rfl, rfl, Sl.nil _ 1, ⟨by omega, fun j => by simp⟩, Below.refl _ _⟩
  case round =>
    obtain ⟨k, a', n', c', rfl, hk, rfl, rfl, hsi, hbd, hbr⟩ := hrel
    have hbw := hb1.trans (hbr.mono hb1.size)
    by_cases hlt : k < cn
    · have hpl2 : k < (allC m).length := by rw [← HCN.out]; exact hlt
      have htk : (allC m).take (k + 1) = (allC m).take k ++ [(allC m)[k]?.getD []] := by
        rw [List.take_succ_eq_append_getElem hpl2, List.getElem?_eq_getElem hpl2]
        rfl
      have hmem : (allC m)[k]?.getD [] ∈ allC m := by
        rw [List.getElem?_eq_getElem hpl2]
        exact List.getElem_mem hpl2
      obtain ⟨cb, co, rfl, hcc⟩ := (sc.keep hbr).at_ (by omega)
      obtain ⟨ta, tn, tc, y0, st⟩ := hcc k hlt
      clear hcc
      obtain ⟨t, htt⟩ : ∃ t, (allC m)[k]?.getD [] = t := ⟨_, rfl⟩
      rw [htt] at st htk hmem
      obtain ⟨hl1, hl2⟩ := allC_len hmem
      obtain rfl : m = tn := by have := st.len; omega
      have hstep : ((allC m).take (k + 1)).foldl (mtStep (goodM xs ws l)) ([], false) = mtStep (goodM xs ws l) (((allC m).take k).foldl (mtStep (goodM xs ws l)) ([], false)) t := by rw [htk, List.foldl_append]; rfl
      have mt := st.max
      have ct := st.cap
      clear htt hmem htk hpl2
      obtain ⟨S, hS⟩ : ∃ S, ((allC m).take k).foldl (mtStep (goodM xs ws l)) ([], false) = S := ⟨_, rfl⟩
      rw [hS] at hsi hbd hstep ⊢
      obtain ⟨sb, sf⟩ := S
      dsimp only at hsi hbd ⊢
      obtain ⟨hbd1, hbd2⟩ := hbd
      have hgood : goodM xs ws l t = (decide (gsT (adTo xs ws t m) n ≤ 1000) && (outT (adTo xs ws t m) l bn).isEmpty) := by
        unfold goodM
        rw [show ws.length = m by omega, show xs.length = n by omega, show l.length = bn by omega]
      have hszt : szs t = szT t m := by unfold szs; rw [hl1]
      have hszb : szs sb = szT sb n' := by unfold szs; rw [hsi.len]
      have HG := Lib.hid hgood
      have HST := Lib.hid hszt
      have HSB := Lib.hid hszb
      have HSS := Lib.hid hstep
      have HT2 := Lib.hid hl2
      have HB2 := Lib.hid hbd2
      have hi : (k : Int) < (cn : Int) := by omega
      have hi0 : (0 : Int) ≤ (k : Int) := by omega
      clear hgood hszt hszb hstep hl2 hbd2 hS
      cases hok : decide (gsT (adTo xs ws t m) n ≤ 1000)
      · have he : mtStep (goodM xs ws l) (sb, sf) t = (sb, sf) := by
          unfold mtStep
          rw [if_neg]
          rintro ⟨hh, _⟩
          rw [HG.out, hok] at hh
          cases hh
        have HM := Lib.hid he
        clear he
        go_wp2_with fail
        refine (rAdded_any a n c xs b m d ws ta tc t _ (h1.keep hbw) (h2.keep hbw) st hn0 hn hm HX.out HL.out HW.out HT2.out false hok).mono ?_
        rintro e w2 ⟨a2, n2, c2', rfl, _, q2, q3, hs⟩
        have hr1 := hbr.size
        replace hbr := hbr.trans (hs.mono hr1)
        replace hsi := hsi.keep hs
        clear hok
        go_wp2_with fail
        go_roundw
        case rel => exact ⟨k + 1, a', n', c', by go_num, by omega, rfl, by rw [HSS.out, HM.out], by rw [HSS.out, HM.out]; exact hsi, by rw [HSS.out, HM.out]; exact ⟨hbd1, HB2.out⟩, hbr⟩
        case measure => simp [intOf]; omega
      · have hsb : ∀ j : Nat, -1000 ≤ (adTo xs ws t m)[j]?.getD 0 ∧ (adTo xs ws t m)[j]?.getD 0 ≤ 1000 := by
          intro j
          rcases Nat.lt_or_ge j n with hj | hj
          · exact (gsT_le _ 1000 (by omega) n).1 (of_decide_eq_true hok) j hj
          · rw [List.getElem?_eq_none (by rw [adTo_len]; omega)]
            simp
        have HS := Lib.hid hsb
        go_wp2_with fail
        refine (rAdded_any a n c xs b m d ws ta tc t _ (h1.keep hbw) (h2.keep hbw) st hn0 hn hm HX.out HL.out HW.out HT2.out true hok).mono ?_
        rintro e w2 ⟨a2, n2, c2', rfl, s2, q2, q3, hs⟩
        replace s2 := s2 rfl
        obtain rfl : n = n2 := by have := s2.len; rw [adTo_len] at this; omega
        rw [hok] at HG
        have hr1 := hbr.size
        have hr2 := hbw.size
        replace hbr := hbr.trans (hs.mono hr1)
        replace hbw := hbw.trans (hs.mono hr2)
        replace hsi := hsi.keep hs
        replace st := st.keep hs
        replace y0 := cell_keep y0 hs
        clear hok hsb hs hr1 hr2
        go_wp2_with fail
        refine (rOutside_any a2 n c2' _ ba bn bc l _ s2 (h3.keep hbw) hn HS.out hbn HO.out).mono ?_
        rintro e w3 ⟨a3, n3, c3', rfl, s3, hs⟩
        have hr1 := hbr.size
        replace hbr := hbr.trans (hs.mono hr1)
        replace hsi := hsi.keep hs
        replace st := st.keep hs
        replace y0 := cell_keep y0 hs
        have hl3 := s3.len
        have m3' := s3.max
        have c3'' := s3.cap
        clear hs hr1
        cases hem : (outT (adTo xs ws t m) l bn).isEmpty
        · have he : mtStep (goodM xs ws l) (sb, sf) t = (sb, sf) := by
            unfold mtStep
            rw [if_neg]
            rintro ⟨hh, _⟩
            rw [HG.out, hem] at hh
            cases hh
          have HM := Lib.hid he
          have hpos : (0 : Int) < (n3 : Int) := by
            have : n3 ≠ 0 := by
              intro h0
              rw [h0] at hl3
              rw [List.length_eq_zero_iff.1 hl3.symm] at hem
              cases hem
            omega
          clear he hem hl3
          go_wp2_with fail
          go_roundw
          case rel => exact ⟨k + 1, a', n', c', by go_num, by omega, rfl, by rw [HSS.out, HM.out], by rw [HSS.out, HM.out]; exact hsi, by rw [HSS.out, HM.out]; exact ⟨hbd1, HB2.out⟩, hbr⟩
          case measure => simp [intOf]; omega
        · obtain rfl : n3 = 0 := by rw [hl3, List.isEmpty_iff.1 hem]; rfl
          rw [hem] at HG
          clear hl3 hem
          cases sf
          · have he : mtStep (goodM xs ws l) (sb, false) t = (t, true) := by
              unfold mtStep
              rw [if_pos]
              exact ⟨by rw [HG.out]; rfl, fun h => by cases h⟩
            have HM := Lib.hid he
            clear he
            go_wp2_with fail
            go_roundw
            case rel => exact ⟨k + 1, ta, m, tc, by go_num, by omega, rfl, by rw [HSS.out, HM.out], by rw [HSS.out, HM.out]; exact st, by rw [HSS.out, HM.out]; exact ⟨hm, HT2.out⟩, hbr⟩
            case measure => simp [intOf]; omega
          · by_cases hlt2 : szT t m < szT sb n'
            · have he : mtStep (goodM xs ws l) (sb, true) t = (t, true) := by
                unfold mtStep
                rw [if_pos]
                exact ⟨by rw [HG.out]; rfl, fun _ => by dsimp only; rw [HST.out, HSB.out]; exact hlt2⟩
              have HM := Lib.hid he
              clear he
              go_wp2_with fail
              refine (rSizes_any ta m tc t _ st (by omega) (fun j => by have := HT2.out j; omega)).mono ?_
              rintro e w4 ⟨rfl, rfl⟩
              go_wp2_with fail
              refine (rSizes_any a' n' c' sb _ hsi (by omega) (fun j => by have := HB2.out j; omega)).mono ?_
              rintro e w4 ⟨rfl, rfl⟩
              go_wp2_with fail
              go_roundw
              case rel => exact ⟨k + 1, ta, m, tc, by go_num, by omega, rfl, by rw [HSS.out, HM.out], by rw [HSS.out, HM.out]; exact st, by rw [HSS.out, HM.out]; exact ⟨hm, HT2.out⟩, hbr⟩
              case measure => simp [intOf]; omega
            · have hge : szT sb n' ≤ szT t m := by omega
              have he : mtStep (goodM xs ws l) (sb, true) t = (sb, true) := by
                unfold mtStep
                rw [if_neg]
                rintro ⟨_, hh⟩
                have := hh rfl
                dsimp only at this
                rw [HST.out, HSB.out] at this
                omega
              have HM := Lib.hid he
              clear he hlt2
              go_wp2_with fail
              refine (rSizes_any ta m tc t _ st (by omega) (fun j => by have := HT2.out j; omega)).mono ?_
              rintro e w4 ⟨rfl, rfl⟩
              go_wp2_with fail
              refine (rSizes_any a' n' c' sb _ hsi (by omega) (fun j => by have := HB2.out j; omega)).mono ?_
              rintro e w4 ⟨rfl, rfl⟩
              go_wp2_with fail
              go_roundw
              case rel => exact ⟨k + 1, a', n', c', by go_num, by omega, rfl, by rw [HSS.out, HM.out], by rw [HSS.out, HM.out]; exact hsi, by rw [HSS.out, HM.out]; exact ⟨hbd1, HB2.out⟩, hbr⟩
              case measure => simp [intOf]; omega
    · have hle : (cn : Int) ≤ (k : Int) := by omega
      have hfin : ((allC m).take k).foldl (mtStep (goodM xs ws l)) ([], false) = mtF (goodM xs ws l) m := by
        rw [List.take_of_length_le (by rw [← HCN.out]; omega)]
        rfl
      rw [hfin] at hsi ⊢
      clear hfin hbd
      go_wp2_with fail
      go_ret2
      exact ⟨a', n', c', rfl, hsi, hbw⟩
end Go.Proofs.Ytiibdndchkbefaa

namespace Go.Proofs.Ytiibdndchkbefaa

def opp (xs : List Int) : List Int := xs.map (fun x => -x)
theorem opp_len (xs : List Int) : (opp xs).length = xs.length := by simp [opp]
theorem opp_get (xs : List Int) (k : Nat) : (opp xs)[k]?.getD 0 = -(xs[k]?.getD 0) := by
  unfold opp
  rw [List.getElem?_map]
  cases xs[k]? <;> simp
theorem opp_take (xs : List Int) (k : Nat) (h : k < xs.length) : opp (xs.take (k + 1)) = opp (xs.take k) ++ [-(xs[k]?.getD 0)] := by
  unfold opp
  rw [List.take_succ_eq_append_getElem h, List.map_append, List.getElem?_eq_getElem h]
  rfl
theorem rspT_opp (xs : List Int) (st dm : Int) (k : Nat) : rspT (opp xs) st dm k = (-(rspT xs st dm k).1, -(rspT xs st dm k).2) := by
  induction k with
  | zero => rfl
  | succ k ih =>
    show (_, _) = (_, _)
    rw [ih, opp_get]
    dsimp only
    have e : st * -(rspT xs st dm k).1 + dm * (-(rspT xs st dm k).1 - -(rspT xs st dm k).2) = -(st * (rspT xs st dm k).1 + dm * ((rspT xs st dm k).1 - (rspT xs st dm k).2)) := by grind
    rw [e, Int.neg_tdiv]
    congr 1
    show _ = -(2 * (rspT xs st dm k).1 - (rspT xs st dm k).2 - (st * (rspT xs st dm k).1 + dm * ((rspT xs st dm k).1 - (rspT xs st dm k).2)).tdiv 1000 - xs[k]?.getD 0)
    omega
theorem rspT_later (xs : List Int) (st dm : Int) (k : Nat) : rspT (0 :: xs) st dm (k + 1) = rspT xs st dm k := by
  induction k with
  | zero =>
    show (_, _) = (_, _)
    simp [rspT]
  | succ k ih =>
    show (_, _) = (_, _)
    rw [ih]
    rfl
theorem rspT_zero (n : Nat) (st dm : Int) (k : Nat) : rspT (List.replicate n 0) st dm k = (0, 0) := by
  induction k with
  | zero => rfl
  | succ k ih =>
    show (_, _) = (_, _)
    rw [ih]
    have : (List.replicate n (0 : Int))[k]?.getD 0 = 0 := by
      rw [List.getElem?_replicate]
      split <;> rfl
    rw [this]
    simp
theorem rspT_free (xs : List Int) (k : Nat) (h : k ≤ xs.length) : (rspT xs 0 0 k).1 = -(sumT (sumsF xs) k) ∧ (rspT xs 0 0 k).1 - (rspT xs 0 0 k).2 = -(sumT xs k) := by
  induction k with
  | zero => exact ⟨rfl, rfl⟩
  | succ k ih =>
    obtain ⟨h1, h2⟩ := ih (by omega)
    have e : (rspT xs 0 0 (k + 1)) = (2 * (rspT xs 0 0 k).1 - (rspT xs 0 0 k).2 - ((0 : Int) * (rspT xs 0 0 k).1 + 0 * ((rspT xs 0 0 k).1 - (rspT xs 0 0 k).2)).tdiv 1000 - xs[k]?.getD 0, (rspT xs 0 0 k).1) := rfl
    have z : ((0 : Int) * (rspT xs 0 0 k).1 + 0 * ((rspT xs 0 0 k).1 - (rspT xs 0 0 k).2)).tdiv 1000 = 0 := by simp
    rw [z] at e
    have s1 : sumT xs (k + 1) = sumT xs k + xs[k]?.getD 0 := rfl
    have s2 : sumT (sumsF xs) (k + 1) = sumT (sumsF xs) k + (sumsF xs)[k]?.getD 0 := rfl
    rw [sumsF_get xs k (by omega)] at s2
    rw [e]
    dsimp only
    omega
/-- The responses, number by number. -/
theorem rsp_opp {xs : List Int} {st dm : Int} {n k : Nat} (h : k < n) : (rspTo (opp xs) st dm n)[k]?.getD 0 = -((rspTo xs st dm n)[k]?.getD 0) := by
  rw [rspTo_get _ st dm n k h, rspTo_get _ st dm n k h, rspT_opp]
theorem rsp_later {xs : List Int} {st dm : Int} {n k : Nat} (h : k < n) : (rspTo (0 :: xs) st dm (n + 1))[k + 1]?.getD 0 = (rspTo xs st dm n)[k]?.getD 0 := by
  rw [rspTo_get _ st dm (n + 1) (k + 1) (by omega), rspTo_get _ st dm n k h, rspT_later]
theorem rsp_later0 {xs : List Int} {st dm : Int} {n : Nat} : (rspTo (0 :: xs) st dm (n + 1))[0]?.getD 0 = 0 := by
  rw [rspTo_get _ st dm (n + 1) 0 (by omega), rspT_later]
  rfl
theorem rsp_zero {st dm : Int} {n k : Nat} (h : k < n) : (rspTo (List.replicate n 0) st dm n)[k]?.getD 0 = 0 := by
  rw [rspTo_get _ st dm n k h, rspT_zero]
theorem rsp_free {xs : List Int} {k : Nat} (h : k < xs.length) : (rspTo xs 0 0 xs.length)[k]?.getD 0 = -((sumsF (sumsF xs))[k]?.getD 0) := by
  rw [rspTo_get _ 0 0 _ k h, sumsF_get (sumsF xs) k (by rw [sumsF_len]; exact h)]
  exact (rspT_free xs (k + 1) (by omega)).1
theorem rsp_size {xs : List Int} {st dm : Int} (ho : oscE (st, dm) = 0) (hx : ∀ j : Nat, -1000 ≤ xs[j]?.getD 0 ∧ xs[j]?.getD 0 ≤ 1000) {n k : Nat} (hn : n ≤ 23) (h : k < n) :
    -1099511627776 ≤ (rspTo xs st dm n)[k]?.getD 0 ∧ (rspTo xs st dm n)[k]?.getD 0 ≤ 1099511627776 := by
  obtain ⟨h1, h2⟩ := oscE_ok ho
  rw [rspTo_get _ st dm n k h]
  have := (rspT_bd (xs := xs) (st := st) (dm := dm) h1 h2 hx (k + 1)).1
  have h3 := rspB_mono (show k + 1 ≤ 23 by omega)
  have h4 := rspB_num.1
  omega
theorem gsT_opp (xs : List Int) (k : Nat) : gsT (opp xs) k = gsT xs k := by
  induction k with
  | zero => rfl
  | succ k ih =>
    rw [gsT, gsT, ih, opp_get]
    have : sizeOf' (-(xs[k]?.getD 0)) = sizeOf' (xs[k]?.getD 0) := by
      unfold sizeOf'
      split <;> split <;> omega
    rw [this]
theorem sumT_opp (xs : List Int) (k : Nat) : sumT (opp xs) k = -(sumT xs k) := by
  induction k with
  | zero => rfl
  | succ k ih =>
    rw [sumT, sumT, ih, opp_get]
    omega
theorem sumsF_opp (xs : List Int) : sumsF (opp xs) = opp (sumsF xs) := by
  apply List.ext_getElem
  · rw [sumsF_len, opp_len, opp_len, sumsF_len]
  · intro i h1 h2
    have e1 := sumsF_get (opp xs) i (by rw [sumsF_len] at h1; exact h1)
    have e2 := opp_get (sumsF xs) i
    rw [sumsF_get xs i (by rw [sumsF_len, opp_len] at h1; exact h1), ← sumT_opp, ← e1, List.getElem?_eq_getElem h2, List.getElem?_eq_getElem h1] at e2
    exact e2.symm
/-- The opposite record, the later one, and that of zeros are valid. -/
theorem badS_of {xs : List Int} (h : ∀ j : Nat, -1000 ≤ xs[j]?.getD 0 ∧ xs[j]?.getD 0 ≤ 1000) : ∀ i, badS xs i = none := by
  induction xs with
  | nil => intro i; rfl
  | cons x l ih =>
    intro i
    have h0 := h 0
    have : smp x = true := wIn_iff.2 (by simpa using h0)
    rw [badS, if_pos this]
    exact ih (fun j => by simpa using h (j + 1)) (i + 1)
theorem recF_of {step : Int} {xs : List Int} (h1 : 1 < xs.length) (h2 : xs.length ≤ 24) (h3 : 1 ≤ step ∧ step ≤ 1000000) (h : ∀ j : Nat, -1000 ≤ xs[j]?.getD 0 ∧ xs[j]?.getD 0 ≤ 1000) : (recF step xs).2 = 0 := by
  unfold recF
  rw [if_pos (wIn_iff.2 h3), if_pos h1, if_pos h2, badS_of h]
theorem opp_ok {xs : List Int} (h : ∀ j : Nat, -1000 ≤ xs[j]?.getD 0 ∧ xs[j]?.getD 0 ≤ 1000) : ∀ j : Nat, -1000 ≤ (opp xs)[j]?.getD 0 ∧ (opp xs)[j]?.getD 0 ≤ 1000 := by
  intro j
  rw [opp_get]
  have := h j
  omega
theorem later_ok {xs : List Int} (h : ∀ j : Nat, -1000 ≤ xs[j]?.getD 0 ∧ xs[j]?.getD 0 ≤ 1000) : ∀ j : Nat, -1000 ≤ ((0 : Int) :: xs)[j]?.getD 0 ∧ ((0 : Int) :: xs)[j]?.getD 0 ≤ 1000 := by
  intro j
  cases j with
  | zero => simp
  | succ j => simpa using h j
theorem zero_ok (n : Nat) : ∀ j : Nat, -1000 ≤ (List.replicate n (0 : Int))[j]?.getD 0 ∧ (List.replicate n (0 : Int))[j]?.getD 0 ≤ 1000 := by
  intro j
  rw [List.getElem?_replicate]
  split <;> simp
end Go.Proofs.Ytiibdndchkbefaa
