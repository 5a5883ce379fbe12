/- Contracts of springs: force, energy, moves, the backbone. Printed by gen_m10.py. Contracts of moves and of the backbone. Printed by gen_m11.py. The backbone. Rows of floors, of holds and of states. Printed by gen_m13.py. Each over floors; CheckFrame. Printed by gen_m14.py. -/
import Derived.Test.YtaiikekgckjdeaaGreatK07
namespace Go.Proofs.YtaiikekgckjdeaaGreat
open Go.RowKit
open Calmly (Kept)

theorem slE_ok {x : El} {at' : Int} {s : Sp} (h : slE x at' s = 0) : plc s.1 = true ∧ (s.2 = true → x.2.2 = true ∧ s.1 = 0) ∧ (x.2.2 = true → s.1 = 0) ∧ (s.2 = true ∨ szd (at' - s.1) x.2.1 = true) := by
  unfold slE at h
  cases hp : plc s.1
  · rw [hp] at h; simp at h
  · rw [hp, if_pos rfl] at h
    obtain ⟨k, y, b⟩ := x
    obtain ⟨u, br⟩ := s
    dsimp only at h ⊢
    refine ⟨rfl, ?_⟩
    generalize szd (at' - u) y = zz at h ⊢
    by_cases hu : u = 0 <;> cases b <;> cases br <;> cases zz <;> simp [firstE, unlessE, hu] at h ⊢
theorem hldE_ok {l : List El} {at' : Int} {sl : List Sp} (h : (hldE l at' sl).2 = 0) : plc at' = true ∧ sl.length = l.length ∧ ∀ j, j < l.length → slE (l[j]?.getD el0) at' (sl[j]?.getD sp0) = 0 := by
  unfold hldE at h
  split at h
  · rename_i hh
    have hl := hldH_len hh
    have h9 := eaF_all (err := fun i => slE (l[i]?.getD el0) at' (sl[i]?.getD sp0)) (k := 0) (m := sl.length) (n := sl.length) (by omega) h
    exact ⟨hldH_ok hh, hl, fun j hj => h9 j (by omega) (by omega)⟩
  · rename_i hh
    exact absurd h hh
/-- What a valid hold of a valid spring gives. -/
structure HoldOk (l : List El) (at' : Int) (sl : List Sp) : Prop where
  len : 0 < l.length ∧ l.length ≤ 4
  same : sl.length = l.length
  at_ : plc at' = true
  el : ∀ j, j < l.length → elErr (l[j]?.getD el0) = 0
  sl : ∀ j, j < l.length → slE (l[j]?.getD el0) at' (sl[j]?.getD sp0) = 0
theorem chkE_ok {l : List El} {at' : Int} {sl : List Sp} (h : (chkE l at' sl).2 = 0) : HoldOk l at' sl := by
  unfold chkE at h
  split at h
  · rename_i hh
    obtain ⟨h1, h2⟩ := sprE_ok hh
    obtain ⟨h3, h4, h5⟩ := hldE_ok h
    exact ⟨h1, h4, h3, h2, h5⟩
  · rename_i hh
    exact absurd h hh
theorem HoldOk.elB {l : List El} {at' : Int} {sl : List Sp} (h : HoldOk l at' sl) {at2 : Int} (h2 : plc at2 = true) {i : Nat} (hi : i < l.length) : ElB (l[i]?.getD el0).1 (l[i]?.getD el0).2.1 (sl[i]?.getD sp0).1 at2 := by
  have h3 := elErr_ok (h.el i hi)
  have h4 := plc_ok (slE_ok (h.sl i hi)).1
  have h5 := plc_ok h2
  exact ⟨by omega, by omega, by omega, by omega⟩
/-- Force and energy of a spring. -/
def frcS (l : List El) (at' : Int) (sl : List Sp) : Int := sumR (fun i => frcE (l[i]?.getD el0).1 (sl[i]?.getD sp0).1 (sl[i]?.getD sp0).2 at') l.length
def enrS (l : List El) (at' : Int) (sl : List Sp) : Int := sumR (fun i => enrE (l[i]?.getD el0).1 (sl[i]?.getD sp0).1 (sl[i]?.getD sp0).2 at') l.length

/-- The error of a move. -/
def opnE (l : List El) (at1 : Int) (sl : List Sp) (at2 : Int) : Int := firstE [(chkE l at1 sl).2, unlessE (plc at2) 2]
theorem opnE_ok {l : List El} {at1 at2 : Int} {sl : List Sp} (h : opnE l at1 sl at2 = 0) : HoldOk l at1 sl ∧ plc at2 = true := by
  unfold opnE at h
  by_cases h0 : (chkE l at1 sl).2 = 0
  · refine ⟨chkE_ok h0, ?_⟩
    cases hp : plc at2
    · rw [h0, hp] at h
      simp [firstE, unlessE] at h
    · rfl
  · simp [firstE, h0] at h
set_option maxRecDepth 100000 in
set_option maxHeartbeats 1000000 in
theorem openMove_any (a a2 : Option Addr) (n c n2 c2 : Nat) (l : List El) (at1 at2 : Int) (sl : List Sp) (w : World) (h1 : SEl w a n c l) (h2 : SSp w a2 n2 c2 sl) :
    Calls Tryz.prog 60 #[.slice a n c, .agg #[.int .i64 at1, .slice a2 n2 c2], .int .i64 at2] w fun e w' => e = .returned (.int .i64 (opnE l at1 sl at2)) ∧ Below w.heap.size w w' := by
  obtain ⟨I, E, hR⟩ : ∃ I E, chkE l at1 sl = (I, E) := ⟨_, _, rfl⟩
  have HR := Lib.hid hR
  clear hR
  have y0 := alloc_new w (.cells #[.int .i64 at1, .slice a2 n2 c2] 57)
  have BW : Below w.heap.size w (w.alloc (.cells #[.int .i64 at1, .slice a2 n2 c2] 57)) := (Below.refl _ _).alloc (Nat.le_refl _) _
  go_enter Tryz.func60, Tryz.ntmps60
  go_wp2_with fail
  generalize w.alloc (.cells #[.int .i64 at1, .slice a2 n2 c2] 57) = W at *
  refine (CheckHold_any a a2 n c n2 c2 l at1 sl W (h1.keep BW) (h2.keep BW)).mono ?_
  rintro e w1 ⟨rfl, hs⟩
  rw [HR.out]
  dsimp only
  go_wp2_with fail
  refine (dPlace_any at2 _).mono ?_
  rintro e w2 ⟨rfl, rfl⟩
  go_wp2_with fail
  refine (dUnless_any _ 2 _).mono ?_
  rintro e w2 ⟨rfl, rfl⟩
  go_wp2_with fail
  refine (dFirst_any _ 2 2 _ _ (SI.two _ _ _ _ rfl)).mono ?_
  rintro e w2 ⟨rfl, rfl⟩
  go_wp2_with fail
  go_ret
  exact ⟨ret_int (by rw [opnE, HR.out]), (BW.trans (hs.mono BW.size)).alloc (by have := BW.size; have := hs.size; omega) _⟩

set_option maxRecDepth 100000 in
set_option maxHeartbeats 1000000 in
theorem beginning_any (a : Option Addr) (n c : Nat) (l : List El) (w : World) (h1 : SEl w a n c l) (hn : n ≤ 1000) :
    Calls Tryz.prog 95 #[.slice a n c] w fun e w' => ∃ av, e = .returned (.agg #[.int .i64 0, .slice av n n]) ∧ OwS w' w.heap.size av n n (List.replicate n sp0) ∧ Below w.heap.size w w' := by
  have m1 := h1.max
  have c1 := h1.cap
  go_enter Tryz.func95, Tryz.ntmps95
  have y0 := alloc_new w (.cells #[.int .i64 0, .slice none 0 0] 57)
  have BW : Below w.heap.size w (w.alloc (.cells #[.int .i64 0, .slice none 0 0] 57)) := (Below.refl _ _).alloc (Nat.le_refl _) _
  have hsz : (w.alloc (.cells #[.int .i64 0, .slice none 0 0] 57)).heap.size = w.heap.size + 1 := by simp
  have HS := Lib.hid hsz
  clear hsz
  go_wp2_with (refine makeS (n := n) rfl _ _ rfl rfl rfl rfl (by omega) (fun w2 ho hb hlt => ?_); have k0 := blk_keep y0 hb; have c0 := cell_block k0 0; have c1 := cell_block k0 1; have f0 := frozen_block k0 0; have f1 := frozen_block k0 1)
  have hne2 : ∀ b, b ≠ w.heap.size → ((w2.setCell ⟨w.heap.size, 0, none⟩ (.int .i64 0)).setCell ⟨w.heap.size, 1, none⟩ (.slice (some ⟨w.heap.size + 1, 0, none⟩) n n)).heap[b]? = w2.heap[b]? := fun b hb => by
    rw [Below.heap_setCell _ _ _ _ hb, Below.heap_setCell _ _ _ _ hb]
  have q0 := setBlk (setBlk k0 0 (.int .i64 0)) 1 (.slice (some ⟨w.heap.size + 1, 0, none⟩) n n)
  simp at q0
  have e0 := cell_block q0 0
  have e1 := cell_block q0 1
  have BF : Below w.heap.size w ((w2.setCell ⟨w.heap.size, 0, none⟩ (.int .i64 0)).setCell ⟨w.heap.size, 1, none⟩ (.slice (some ⟨w.heap.size + 1, 0, none⟩) n n)) := ((BW.trans (hb.mono BW.size)).setCell (Nat.le_refl _) _).setCell (Nat.le_refl _) _
  have ho2 : OwS ((w2.setCell ⟨w.heap.size, 0, none⟩ (.int .i64 0)).setCell ⟨w.heap.size, 1, none⟩ (.slice (some ⟨w.heap.size + 1, 0, none⟩) n n)) w.heap.size (some ⟨w.heap.size + 1, 0, none⟩) n n (List.replicate n sp0) := by
    rw [HS.out] at ho
    exact owns_lower (owns_apart ho hne2 (by omega)) (by omega)
  refine bodyPost_ret (v := .agg #[.int .i64 0, .slice (some ⟨w.heap.size + 1, 0, none⟩) n n]) (by simp [results, Tryz.results95, go_sem, e0, e1]) rfl ⟨_, rfl, ho2, BF⟩
end Go.Proofs.YtaiikekgckjdeaaGreat

namespace Go.Proofs.YtaiikekgckjdeaaGreat
open Go.RowKit
open Calmly (Kept)

def mvdS (l : List El) (sl : List Sp) (at2 : Int) : List Sp := (List.range l.length).map (mvRow l sl at2)
def wrkS (l : List El) (sl : List Sp) (at1 at2 : Int) : Int := sumR (mvW l sl at1 at2) l.length
def losS (l : List El) (sl : List Sp) (at2 : Int) : Int := sumR (mvL l sl at2) l.length
theorem mvdS_len (l : List El) (sl : List Sp) (at2 : Int) : (mvdS l sl at2).length = l.length := by simp [mvdS]
theorem mvdS_get (l : List El) (sl : List Sp) (at2 : Int) {i : Nat} (h : i < l.length) : (mvdS l sl at2)[i]?.getD sp0 = mvRow l sl at2 i := by simp [mvdS, h]

set_option maxRecDepth 100000 in
set_option maxHeartbeats 1000000 in
theorem MovedTo_any (a a2 : Option Addr) (n c n2 c2 : Nat) (l : List El) (at1 at2 : Int) (sl : List Sp) (w : World) (h1 : SEl w a n c l) (h2 : SSp w a2 n2 c2 sl) :
    Calls Tryz.prog 20 #[.slice a n c, .agg #[.int .i64 at1, .slice a2 n2 c2], .int .i64 at2] w fun e w' => ∃ av nv cv, e = .returned (.tuple #[.agg #[.int .i64 (if opnE l at1 sl at2 = 0 then at2 else 0), .slice av nv cv], .int .i64 (opnE l at1 sl at2)]) ∧ OwS w' w.heap.size av nv cv (if opnE l at1 sl at2 = 0 then mvdS l sl at2 else []) ∧ Below w.heap.size w w' := by
  have hln : n = l.length := h1.len
  have hln2 : n2 = sl.length := h2.len
  have HL := Lib.hid hln
  have HL2 := Lib.hid hln2
  clear hln hln2
  obtain ⟨E, hR⟩ : ∃ E, opnE l at1 sl at2 = E := ⟨_, rfl⟩
  have HR := Lib.hid hR
  rw [hR]
  clear hR
  have y0 := blk_keep (alloc_new w (.cells #[.int .i64 at1, .slice a2 n2 c2] 57)) ((Below.refl _ _).alloc (Nat.le_refl _) (.cells #[.int .i64 0, .slice none 0 0] 57))
  have y1 := alloc_new (w.alloc (.cells #[.int .i64 at1, .slice a2 n2 c2] 57)) (.cells #[.int .i64 0, .slice none 0 0] 57)
  have BW : Below w.heap.size w ((w.alloc (.cells #[.int .i64 at1, .slice a2 n2 c2] 57)).alloc (.cells #[.int .i64 0, .slice none 0 0] 57)) := ((Below.refl _ _).alloc (Nat.le_refl _) _).alloc (by simp) _
  simp only [World.size_alloc] at y1
  go_enter Tryz.func20, Tryz.ntmps20
  go_wp2_with fail
  generalize (w.alloc (.cells #[.int .i64 at1, .slice a2 n2 c2] 57)).alloc (.cells #[.int .i64 0, .slice none 0 0] 57) = W at *
  refine (openMove_any a a2 n c n2 c2 l at1 at2 sl W (h1.keep BW) (h2.keep BW)).mono ?_
  rintro e w1 ⟨rfl, hs⟩
  rw [HR.out]
  replace y0 := blk_keep y0 hs
  replace y1 := blk_keep y1 hs
  have c0 := cell_block y0 0
  have c1 := cell_block y0 1
  have f0 := frozen_block y1 0
  have f1 := frozen_block y1 1
  have g0 := cell_block y1 0
  have g1 := cell_block y1 1
  have B1 := BW.trans (hs.mono BW.size)
  by_cases hz : E = 0
  · have b1 : (E != 0) = false := by rw [hz]; rfl
    have hok := opnE_ok (l := l) (at1 := at1) (at2 := at2) (sl := sl) (by rw [HR.out]; exact hz)
    have HO := Lib.hid hok
    have hn2 : n2 = n := by rw [HL.out, HL2.out, hok.1.same]
    have hE0 := Lib.hid hz
    clear hz hok
    subst hn2
    go_wp2_with fail
    refine (move_any a a2 n2 c c2 l at1 at2 sl w1 ((h1.keep BW).keep hs) ((h2.keep BW).keep hs) (by have := HO.out.1.len; have := HL.out; omega) (fun i hi => HO.out.1.elB HO.out.1.at_ (by rw [← HL.out]; exact hi)) (fun i hi => HO.out.1.elB HO.out.2 (by rw [← HL.out]; exact hi))).mono ?_
    rintro e w2 ⟨av, cv, rfl, ho, hs2⟩
    obtain ⟨wk, hwk⟩ : ∃ v, sumR (mvW l sl at1 at2) n2 = v := ⟨_, rfl⟩
    obtain ⟨ls, hls⟩ : ∃ v, sumR (mvL l sl at2) n2 = v := ⟨_, rfl⟩
    rw [hwk, hls]
    have HW := Lib.hid (show wrkS l sl at1 at2 = wk by rw [wrkS, ← HL.out, hwk])
    have HLs := Lib.hid (show losS l sl at2 = ls by rw [losS, ← HL.out, hls])
    clear hwk hls
    have hb1 := blk_lt y1
    have hmm := ho.ss.max
    have hmc := ho.ss.cap
    replace y1 := blk_keep y1 hs2
    have B2 := B1.trans (hs2.mono B1.size)
    have BA : Below w2.heap.size w2 ((w2.alloc (.cells #[.int .i64 at2, .slice av n2 cv] 57)).alloc (.cells #[.int .i64 wk, .int .i64 ls] 64)) := ((Below.refl _ _).alloc (Nat.le_refl _) _).alloc (by simp) _
    replace y1 := blk_keep y1 BA
    have g2 := cell_block y1 0
    have g3 := cell_block y1 1
    have g4 := frozen_block y1 0
    have g5 := frozen_block y1 1
    have B3 := B2.trans (BA.mono B2.size)
    have hlt1 : w1.heap.size ≤ w2.heap.size := hs2.size
    have ho3 := ho.keep BA
    go_wp2_with fail
    have hw : w.heap.size ≤ w.heap.size + 1 := by omega
    have hw1 : w.heap.size + 1 < w1.heap.size := hb1
    have q0 := setBlk (setBlk y1 0 (.int .i64 at2)) 1 (.slice av n2 cv)
    simp at q0
    have e0 := cell_block q0 0
    have e1 := cell_block q0 1
    have B4 := (B3.setCell (p := ⟨w.heap.size + 1, 0, none⟩) hw (.int .i64 at2)).setCell (p := ⟨w.heap.size + 1, 1, none⟩) hw (.slice av n2 cv)
    have ho4 := owns_apart ho3 (r := w.heap.size + 1) (w' := World.setCell (World.setCell ((w2.alloc (.cells #[.int .i64 at2, .slice av n2 cv] 57)).alloc (.cells #[.int .i64 wk, .int .i64 ls] 64)) ⟨w.heap.size + 1, 0, none⟩ (.int .i64 at2)) ⟨w.heap.size + 1, 1, none⟩ (.slice av n2 cv)) (fun b hb => by rw [Below.heap_setCell _ _ _ _ hb, Below.heap_setCell _ _ _ _ hb]) (by omega)
    refine bodyPost_ret (v := .tuple #[.agg #[.int .i64 at2, .slice av n2 cv], .int .i64 0]) (by simp [results, Tryz.results20, go_sem, e0, e1]) rfl ⟨av, n2, cv, rfl, ?_, B4⟩
    rw [mvdS, ← HL.out]
    exact owns_lower ho4 (by omega)
  · have b1 : (E != 0) = true := by simpa using hz
    have HZ := Lib.hid hz
    clear hz
    go_wp2_with fail
    have hw : w.heap.size ≤ w.heap.size + 1 := by omega
    have q0 := setBlk (setBlk y1 0 (.int .i64 0)) 1 (.slice none 0 0)
    simp at q0
    have e0 := cell_block q0 0
    have e1 := cell_block q0 1
    have B4 := (B1.setCell (p := ⟨w.heap.size + 1, 0, none⟩) hw (.int .i64 0)).setCell (p := ⟨w.heap.size + 1, 1, none⟩) hw (.slice none 0 0)
    refine bodyPost_ret (v := .tuple #[.agg #[.int .i64 0, .slice none 0 0], .int .i64 E]) (by simp [results, Tryz.results20, go_sem, e0, e1]) rfl ⟨none, 0, 0, rfl, OwS.nil _ _, B4⟩

set_option maxRecDepth 100000 in
set_option maxHeartbeats 1000000 in
theorem WorkTo_any (a a2 : Option Addr) (n c n2 c2 : Nat) (l : List El) (at1 at2 : Int) (sl : List Sp) (w : World) (h1 : SEl w a n c l) (h2 : SSp w a2 n2 c2 sl) :
    Calls Tryz.prog 23 #[.slice a n c, .agg #[.int .i64 at1, .slice a2 n2 c2], .int .i64 at2] w fun e w' => e = .returned (.tuple #[.agg #[.int .i64 (if opnE l at1 sl at2 = 0 then wrkS l sl at1 at2 else 0), .int .i64 (if opnE l at1 sl at2 = 0 then losS l sl at2 else 0)], .int .i64 (opnE l at1 sl at2)]) ∧ Below w.heap.size w w' := by
  have hln : n = l.length := h1.len
  have hln2 : n2 = sl.length := h2.len
  have HL := Lib.hid hln
  have HL2 := Lib.hid hln2
  clear hln hln2
  obtain ⟨E, hR⟩ : ∃ E, opnE l at1 sl at2 = E := ⟨_, rfl⟩
  have HR := Lib.hid hR
  rw [hR]
  clear hR
  have y0 := blk_keep (alloc_new w (.cells #[.int .i64 at1, .slice a2 n2 c2] 57)) ((Below.refl _ _).alloc (Nat.le_refl _) (.cells #[.int .i64 0, .int .i64 0] 64))
  have y1 := alloc_new (w.alloc (.cells #[.int .i64 at1, .slice a2 n2 c2] 57)) (.cells #[.int .i64 0, .int .i64 0] 64)
  have BW : Below w.heap.size w ((w.alloc (.cells #[.int .i64 at1, .slice a2 n2 c2] 57)).alloc (.cells #[.int .i64 0, .int .i64 0] 64)) := ((Below.refl _ _).alloc (Nat.le_refl _) _).alloc (by simp) _
  simp only [World.size_alloc] at y1
  go_enter Tryz.func23, Tryz.ntmps23
  go_wp2_with fail
  generalize (w.alloc (.cells #[.int .i64 at1, .slice a2 n2 c2] 57)).alloc (.cells #[.int .i64 0, .int .i64 0] 64) = W at *
  refine (openMove_any a a2 n c n2 c2 l at1 at2 sl W (h1.keep BW) (h2.keep BW)).mono ?_
  rintro e w1 ⟨rfl, hs⟩
  rw [HR.out]
  replace y0 := blk_keep y0 hs
  replace y1 := blk_keep y1 hs
  have c0 := cell_block y0 0
  have c1 := cell_block y0 1
  have f0 := frozen_block y1 0
  have f1 := frozen_block y1 1
  have g0 := cell_block y1 0
  have g1 := cell_block y1 1
  have B1 := BW.trans (hs.mono BW.size)
  by_cases hz : E = 0
  · have b1 : (E != 0) = false := by rw [hz]; rfl
    have hok := opnE_ok (l := l) (at1 := at1) (at2 := at2) (sl := sl) (by rw [HR.out]; exact hz)
    have HO := Lib.hid hok
    have hn2 : n2 = n := by rw [HL.out, HL2.out, hok.1.same]
    have hE0 := Lib.hid hz
    clear hz hok
    subst hn2
    go_wp2_with fail
    refine (move_any a a2 n2 c c2 l at1 at2 sl w1 ((h1.keep BW).keep hs) ((h2.keep BW).keep hs) (by have := HO.out.1.len; have := HL.out; omega) (fun i hi => HO.out.1.elB HO.out.1.at_ (by rw [← HL.out]; exact hi)) (fun i hi => HO.out.1.elB HO.out.2 (by rw [← HL.out]; exact hi))).mono ?_
    rintro e w2 ⟨av, cv, rfl, ho, hs2⟩
    obtain ⟨wk, hwk⟩ : ∃ v, sumR (mvW l sl at1 at2) n2 = v := ⟨_, rfl⟩
    obtain ⟨ls, hls⟩ : ∃ v, sumR (mvL l sl at2) n2 = v := ⟨_, rfl⟩
    rw [hwk, hls]
    have HW := Lib.hid (show wrkS l sl at1 at2 = wk by rw [wrkS, ← HL.out, hwk])
    have HLs := Lib.hid (show losS l sl at2 = ls by rw [losS, ← HL.out, hls])
    clear hwk hls
    have hb1 := blk_lt y1
    have hmm := ho.ss.max
    have hmc := ho.ss.cap
    replace y1 := blk_keep y1 hs2
    have B2 := B1.trans (hs2.mono B1.size)
    have BA : Below w2.heap.size w2 ((w2.alloc (.cells #[.int .i64 at2, .slice av n2 cv] 57)).alloc (.cells #[.int .i64 wk, .int .i64 ls] 64)) := ((Below.refl _ _).alloc (Nat.le_refl _) _).alloc (by simp) _
    replace y1 := blk_keep y1 BA
    have g2 := cell_block y1 0
    have g3 := cell_block y1 1
    have g4 := frozen_block y1 0
    have g5 := frozen_block y1 1
    have B3 := B2.trans (BA.mono B2.size)
    have hlt1 : w1.heap.size ≤ w2.heap.size := hs2.size
    have ho3 := ho.keep BA
    go_wp2_with fail
    have hw : w.heap.size ≤ w.heap.size + 1 := by omega
    have hw1 : w.heap.size + 1 < w1.heap.size := hb1
    have q0 := setBlk (setBlk y1 0 (.int .i64 wk)) 1 (.int .i64 ls)
    simp at q0
    have e0 := cell_block q0 0
    have e1 := cell_block q0 1
    have B4 := (B3.setCell (p := ⟨w.heap.size + 1, 0, none⟩) hw (.int .i64 wk)).setCell (p := ⟨w.heap.size + 1, 1, none⟩) hw (.int .i64 ls)
    refine bodyPost_ret (v := .tuple #[.agg #[.int .i64 wk, .int .i64 ls], .int .i64 0]) (by simp [results, Tryz.results23, go_sem, e0, e1]) rfl ⟨by rw [HW.out, HLs.out], B4⟩
  · have b1 : (E != 0) = true := by simpa using hz
    have HZ := Lib.hid hz
    clear hz
    go_wp2_with fail
    have hw : w.heap.size ≤ w.heap.size + 1 := by omega
    have q0 := setBlk (setBlk y1 0 (.int .i64 0)) 1 (.int .i64 0)
    simp at q0
    have e0 := cell_block q0 0
    have e1 := cell_block q0 1
    have B4 := (B1.setCell (p := ⟨w.heap.size + 1, 0, none⟩) hw (.int .i64 0)).setCell (p := ⟨w.heap.size + 1, 1, none⟩) hw (.int .i64 0)
    refine bodyPost_ret (v := .tuple #[.agg #[.int .i64 0, .int .i64 0], .int .i64 E]) (by simp [results, Tryz.results23, go_sem, e0, e1]) rfl ⟨rfl, B4⟩
end Go.Proofs.YtaiikekgckjdeaaGreat

namespace Go.Proofs.YtaiikekgckjdeaaGreat
open Go.RowKit
open Calmly (Kept)

theorem ovr_cases (y d : Int) (_ : 0 ≤ y) : (ovr y d = 0 ∧ -y ≤ d ∧ d ≤ y) ∨ (y < d ∧ ovr y d = d - y) ∨ (d < -y ∧ ovr y d = -d - y) := by unfold ovr; omega
theorem mvSlip_bd {y s at2 : Int} {b br : Bool} (hy : 1 ≤ y) (hs : -10000 ≤ s ∧ s ≤ 10000) (ha : -10000 ≤ at2 ∧ at2 ≤ 10000) : -10000 ≤ mvSlip y b s br at2 ∧ mvSlip y b s br at2 ≤ 10000 := by
  unfold mvSlip
  rcases ovr_cases y (at2 - s) (by omega) with ⟨h, _⟩ | ⟨h1, h⟩ | ⟨h1, h⟩ <;> rw [h] <;> (repeat' split) <;> omega
/-- The error of a backbone. -/
def bbE (l : List El) (at2 : Int) : Int := firstE [(sprE l).2, unlessE (plc at2) 2]
def bgS (l : List El) : List Sp := List.replicate l.length sp0
def bbS (l : List El) (at2 : Int) : Int := frcS l at2 (mvdS l (bgS l) at2)
theorem bbE_ok {l : List El} {at2 : Int} (h : bbE l at2 = 0) : (sprE l).2 = 0 ∧ plc at2 = true := by
  unfold bbE at h
  by_cases h0 : (sprE l).2 = 0
  · refine ⟨h0, ?_⟩
    cases hp : plc at2
    · rw [h0, hp] at h
      simp [firstE, unlessE] at h
    · rfl
  · simp [firstE, h0] at h
theorem bgS_get (l : List El) (i : Nat) : (bgS l)[i]?.getD sp0 = sp0 := by
  unfold bgS
  rw [List.getElem?_replicate]
  split <;> rfl
end Go.Proofs.YtaiikekgckjdeaaGreat

namespace Go.Proofs.YtaiikekgckjdeaaGreat
open Go.RowKit
open Calmly (Kept)

abbrev Hd := Option Addr × Nat × Nat
def hd0 : Hd := (none, 0, 0)
def hv (h : Hd) : Value := .slice h.1 h.2.1 h.2.2
theorem Sl.same {w w' : World} {k : Nat} {a : Option Addr} {n c : Nat} {xs : List Value} (h : Sl w k a n c xs) (hs : ∀ b o, 0 < n → a = some ⟨b, o, none⟩ → w'.heap[b]? = w.heap[b]?) : Sl w' k a n c xs := by
  obtain ⟨h1, h2, h3, h4⟩ := h
  refine ⟨h1, h2, h3, ?_⟩
  rcases h4 with h4 | ⟨b, off, ha, hc⟩
  · exact .inl h4
  · refine .inr ⟨b, off, ha, fun i hi => ?_⟩
    have hn : 0 < n := by
      rcases Nat.eq_zero_or_pos n with h0 | h0
      · rw [h0, Nat.zero_mul] at hi; omega
      · exact h0
    rw [World.cell?_of_block (hs b off hn ha)]
    exact hc i hi
/-- An append of a record to a row of the call's own: blocks of other types are as they were. -/
theorem appRec {P : Program} {ops : Array Oper} {rest : List Oper} {o : Oper} {a : Act} {Q : Exit → Act → World → Prop} {Wx : World} (w0 : World) (t e : TypeId) {z : Value} {k bytes : Nat} {new : List Value} (hW : Wx = w0.alloc (.cells new.toArray e)) (hgd : o.guard = none) (s x' : Operand)
    (ho : o.op = .call { callee := .builtin .append, args := #[s, x'], argTypes := #[t, t] }) (ht : P.underlying t = some (.slice e)) (hinfo : (P.info? e).map (fun i => (i.zero, i.size, i.bytes)) = some (some z, k, bytes)) (hzs : z.cells.size = k) (hsz : 0 < k) (hbb : bytes ≤ 128)
    {B : Nat} {av : Option Addr} {n c : Nat} {xs : List Value} (hown : w0.ownsRow B e k (.slice av n c) n xs) (hs : a.eval s = .slice av n c) (hx : a.eval x' = .slice (some ⟨w0.heap.size, 0, none⟩) 1 1) (hnl : new.length = k) (hone : ∀ u ∈ new, u.oneCell' = true)
    (hb1 : n + 1 ≤ 1099511627776) (hB : B ≤ w0.heap.size)
    (h : ∀ a' c' w', w'.ownsRow B e k (.slice a' (n + 1) c') (n + 1) (xs ++ new) → Below B w0 w' → KeepsOthers w0 w' → (∀ b, b < w0.heap.size → ¬ BlkT w0 b e → w'.heap[b]? = w0.heap[b]?) → wpList P ops Q rest (a.put o.dst (.slice a' (n + 1) c')) w') :
    wpList P ops Q (o :: rest) a Wx := by
  subst hW
  obtain ⟨i0, hi, hz0, hz1, hz2⟩ := info_parts hinfo
  have hal : KeepsOthers w0 (w0.alloc (.cells new.toArray e)) := KeepsOthers.alloc _ _
  have hmul : (n + 1) * bytes ≤ 140737488355328 := by
    have := Nat.mul_le_mul hb1 hbb
    omega
  refine wpList_append_own _ hgd s x' t ho B e i0 z k bytes ht hi hz0 hz1 hz2 hzs hsz _ n xs hs (World.ownsRow.alloc hown _) ⟨w0.heap.size, 0, none⟩ 1 1 new hx (by rw [hnl, Nat.one_mul]) (by simpa using cells_new w0 new.toArray e) hone (by unfold maxLen; omega) hmul (by simp; omega) ?_
  intro v' w1 ho1 hg hn
  have hrow : ∀ j, (Value.slice av n c).ownBlock = some j → B ≤ j := fun j hj => (World.ownsRow.lt hown j hj).1
  have hb0 : Below B w0 (w0.alloc (.cells new.toArray e)) := (Below.refl _ _).alloc hB _
  have hb2 : Below B w0 w1 := hb0.trans (grown_below hg (by simp; omega) hrow)
  have hko : KeepsOthers w0 w1 := hal.trans (ko_grown hg (fun r hr => by
    rcases hown.2 with ⟨h1, _⟩ | ⟨g, cap, cur, h1, _, h3, _⟩
    · cases h1; cases hr
    · cases h1
      cases hr
      exact ⟨_, (Below.heap_alloc w0 _ g (Array.getElem?_eq_some_iff.1 h3).1).trans h3, rfl⟩))
  obtain ⟨a', c', rfl⟩ := owns_slice ho1
  refine h a' c' w1 ho1 hb2 hko (fun b hb hne => ?_)
  rw [hg.block b (by simp; omega) ?_]
  · exact Below.heap_alloc w0 _ b hb
  · intro he
    rcases hown.2 with ⟨h1, _⟩ | ⟨g', cap, cur, h1, _, h3, _⟩
    · cases h1; cases he
    · cases h1
      cases he
      exact hne ⟨_, h3⟩

/-! ### Floors -/
abbrev FlR := Int × Int × Hd
def encFlR (x : FlR) : List Value := [.int .i64 x.1, .int .i64 x.2.1, hv x.2.2]
def flr0 : FlR := (0, 0, hd0)
theorem encFlR_len (x : FlR) : (encFlR x).length = 3 := rfl
def SFlR (w : World) (a : Option Addr) (n c : Nat) (l : List FlR) : Prop := Sl w 3 a n c (l.flatMap encFlR)
theorem SFlR.keep {w w' : World} {a : Option Addr} {n c : Nat} {l : List FlR} (h : SFlR w a n c l) (hb : Below w.heap.size w w') : SFlR w' a n c l := Sl.keep h hb
theorem SFlR.len {w : World} {a : Option Addr} {n c : Nat} {l : List FlR} (h : SFlR w a n c l) : n = l.length := Sl.recsLen encFlR_len (by decide) h
theorem SFlR.cap {w : World} {a : Option Addr} {n c : Nat} {l : List FlR} (h : SFlR w a n c l) : n ≤ c := h.2.1
theorem SFlR.max {w : World} {a : Option Addr} {n c : Nat} {l : List FlR} (h : SFlR w a n c l) : c ≤ 9223372036854775807 := h.2.2.1
theorem SFlR.nil (w : World) : SFlR w none 0 0 [] := Sl.nil w 3
theorem SFlR.at_ {w : World} {a : Option Addr} {n c : Nat} {l : List FlR} (h : SFlR w a n c l) (hn : 0 < n) :
    ∃ b off, a = some ⟨b, off, none⟩ ∧ ∀ i, i < n → w.cell? ⟨b, off + i * 3, none⟩ = some (.int .i64 (l[i]?.getD flr0).1) ∧ w.cell? ⟨b, off + i * 3 + 1, none⟩ = some (.int .i64 (l[i]?.getD flr0).2.1) ∧ w.cell? ⟨b, off + i * 3 + 2, none⟩ = some (hv (l[i]?.getD flr0).2.2) := by
  obtain ⟨b, off, ha, hc⟩ := Sl.recs encFlR_len (by decide) flr0 h hn
  exact ⟨b, off, ha, fun i hi => ⟨hc i hi 0 (by omega), hc i hi 1 (by omega), hc i hi 2 (by omega)⟩⟩
theorem SFlR.blk {w : World} {a : Option Addr} {n c : Nat} {l : List FlR} (h : SFlR w a n c l) : ∀ b o, 0 < n → a = some ⟨b, o, none⟩ → b < w.heap.size := by
  intro b o hn ha
  obtain ⟨b', o', he, hc⟩ := h.at_ hn
  rw [ha] at he
  cases he
  exact cell_lt (hc 0 hn).1
theorem Tryz.info_flr : (Tryz.prog.info? 120).map (fun i => (i.zero, i.size, i.bytes)) = some (some (.agg #[.int .i64 0, .int .i64 0, .slice none 0 0]), 3, 40) := by kernel_rfl
def OwFlR (w : World) (B : Nat) (a : Option Addr) (n c : Nat) (l : List FlR) : Prop := w.ownsRow B 120 3 (.slice a n c) n (l.flatMap encFlR)
theorem OwFlR.nil (w : World) (B : Nat) : OwFlR w B none 0 0 [] := World.ownsRow_nil w B _ 3
theorem OwFlR.sr {w : World} {B : Nat} {a : Option Addr} {n c : Nat} {l : List FlR} (h : OwFlR w B a n c l) : SFlR w a n c l := by
  obtain ⟨a', c', he, hs⟩ := Sl.of_owns h
  cases he
  exact hs
theorem OwFlR.keep {w w' : World} {B : Nat} {a : Option Addr} {n c : Nat} {l : List FlR} (h : OwFlR w B a n c l) (hb : Below w.heap.size w w') : OwFlR w' B a n c l := owns_keep h hb
theorem OwFlR.lt {w : World} {B : Nat} {a : Option Addr} {n c : Nat} {l : List FlR} (h : OwFlR w B a n c l) : ∀ g o, a = some ⟨g, o, none⟩ → B ≤ g ∧ g < w.heap.size := by
  rintro g o rfl
  exact World.ownsRow.lt h g rfl
theorem oneCell_FlR (x : FlR) : ∀ u ∈ encFlR x, u.oneCell' = true := by
  intro u hu
  simp only [encFlR, List.mem_cons, List.not_mem_nil, or_false] at hu
  rcases hu with rfl | rfl | rfl <;> rfl

/-! ### Holds -/
abbrev HoR := Int × Hd
def encHoR (x : HoR) : List Value := [.int .i64 x.1, hv x.2]
def hor0 : HoR := (0, hd0)
theorem encHoR_len (x : HoR) : (encHoR x).length = 2 := rfl
def SHoR (w : World) (a : Option Addr) (n c : Nat) (l : List HoR) : Prop := Sl w 2 a n c (l.flatMap encHoR)
theorem SHoR.keep {w w' : World} {a : Option Addr} {n c : Nat} {l : List HoR} (h : SHoR w a n c l) (hb : Below w.heap.size w w') : SHoR w' a n c l := Sl.keep h hb
theorem SHoR.len {w : World} {a : Option Addr} {n c : Nat} {l : List HoR} (h : SHoR w a n c l) : n = l.length := Sl.recsLen encHoR_len (by decide) h
theorem SHoR.cap {w : World} {a : Option Addr} {n c : Nat} {l : List HoR} (h : SHoR w a n c l) : n ≤ c := h.2.1
theorem SHoR.max {w : World} {a : Option Addr} {n c : Nat} {l : List HoR} (h : SHoR w a n c l) : c ≤ 9223372036854775807 := h.2.2.1
theorem SHoR.nil (w : World) : SHoR w none 0 0 [] := Sl.nil w 2
theorem SHoR.at_ {w : World} {a : Option Addr} {n c : Nat} {l : List HoR} (h : SHoR w a n c l) (hn : 0 < n) :
    ∃ b off, a = some ⟨b, off, none⟩ ∧ ∀ i, i < n → w.cell? ⟨b, off + i * 2, none⟩ = some (.int .i64 (l[i]?.getD hor0).1) ∧ w.cell? ⟨b, off + i * 2 + 1, none⟩ = some (hv (l[i]?.getD hor0).2) := by
  obtain ⟨b, off, ha, hc⟩ := Sl.recs encHoR_len (by decide) hor0 h hn
  exact ⟨b, off, ha, fun i hi => ⟨hc i hi 0 (by omega), hc i hi 1 (by omega)⟩⟩
theorem SHoR.blk {w : World} {a : Option Addr} {n c : Nat} {l : List HoR} (h : SHoR w a n c l) : ∀ b o, 0 < n → a = some ⟨b, o, none⟩ → b < w.heap.size := by
  intro b o hn ha
  obtain ⟨b', o', he, hc⟩ := h.at_ hn
  rw [ha] at he
  cases he
  exact cell_lt (hc 0 hn).1
theorem Tryz.info_hor : (Tryz.prog.info? 57).map (fun i => (i.zero, i.size, i.bytes)) = some (some (.agg #[.int .i64 0, .slice none 0 0]), 2, 32) := by kernel_rfl
def OwHoR (w : World) (B : Nat) (a : Option Addr) (n c : Nat) (l : List HoR) : Prop := w.ownsRow B 57 2 (.slice a n c) n (l.flatMap encHoR)
theorem OwHoR.nil (w : World) (B : Nat) : OwHoR w B none 0 0 [] := World.ownsRow_nil w B _ 2
theorem OwHoR.sr {w : World} {B : Nat} {a : Option Addr} {n c : Nat} {l : List HoR} (h : OwHoR w B a n c l) : SHoR w a n c l := by
  obtain ⟨a', c', he, hs⟩ := Sl.of_owns h
  cases he
  exact hs
theorem OwHoR.keep {w w' : World} {B : Nat} {a : Option Addr} {n c : Nat} {l : List HoR} (h : OwHoR w B a n c l) (hb : Below w.heap.size w w') : OwHoR w' B a n c l := owns_keep h hb
theorem OwHoR.lt {w : World} {B : Nat} {a : Option Addr} {n c : Nat} {l : List HoR} (h : OwHoR w B a n c l) : ∀ g o, a = some ⟨g, o, none⟩ → B ≤ g ∧ g < w.heap.size := by
  rintro g o rfl
  exact World.ownsRow.lt h g rfl
theorem oneCell_HoR (x : HoR) : ∀ u ∈ encHoR x, u.oneCell' = true := by
  intro u hu
  simp only [encHoR, List.mem_cons, List.not_mem_nil, or_false] at hu
  rcases hu with rfl | rfl <;> rfl

/-! ### States -/
abbrev StR := Hd × Hd × Hd
def encStR (x : StR) : List Value := [hv x.1, hv x.2.1, hv x.2.2]
def str0 : StR := (hd0, hd0, hd0)
theorem encStR_len (x : StR) : (encStR x).length = 3 := rfl
def SStR (w : World) (a : Option Addr) (n c : Nat) (l : List StR) : Prop := Sl w 3 a n c (l.flatMap encStR)
theorem SStR.keep {w w' : World} {a : Option Addr} {n c : Nat} {l : List StR} (h : SStR w a n c l) (hb : Below w.heap.size w w') : SStR w' a n c l := Sl.keep h hb
theorem SStR.len {w : World} {a : Option Addr} {n c : Nat} {l : List StR} (h : SStR w a n c l) : n = l.length := Sl.recsLen encStR_len (by decide) h
theorem SStR.cap {w : World} {a : Option Addr} {n c : Nat} {l : List StR} (h : SStR w a n c l) : n ≤ c := h.2.1
theorem SStR.max {w : World} {a : Option Addr} {n c : Nat} {l : List StR} (h : SStR w a n c l) : c ≤ 9223372036854775807 := h.2.2.1
theorem SStR.nil (w : World) : SStR w none 0 0 [] := Sl.nil w 3
theorem SStR.at_ {w : World} {a : Option Addr} {n c : Nat} {l : List StR} (h : SStR w a n c l) (hn : 0 < n) :
    ∃ b off, a = some ⟨b, off, none⟩ ∧ ∀ i, i < n → w.cell? ⟨b, off + i * 3, none⟩ = some (hv (l[i]?.getD str0).1) ∧ w.cell? ⟨b, off + i * 3 + 1, none⟩ = some (hv (l[i]?.getD str0).2.1) ∧ w.cell? ⟨b, off + i * 3 + 2, none⟩ = some (hv (l[i]?.getD str0).2.2) := by
  obtain ⟨b, off, ha, hc⟩ := Sl.recs encStR_len (by decide) str0 h hn
  exact ⟨b, off, ha, fun i hi => ⟨hc i hi 0 (by omega), hc i hi 1 (by omega), hc i hi 2 (by omega)⟩⟩
theorem SStR.blk {w : World} {a : Option Addr} {n c : Nat} {l : List StR} (h : SStR w a n c l) : ∀ b o, 0 < n → a = some ⟨b, o, none⟩ → b < w.heap.size := by
  intro b o hn ha
  obtain ⟨b', o', he, hc⟩ := h.at_ hn
  rw [ha] at he
  cases he
  exact cell_lt (hc 0 hn).1
theorem Tryz.info_str : (Tryz.prog.info? 116).map (fun i => (i.zero, i.size, i.bytes)) = some (some (.agg #[.slice none 0 0, .slice none 0 0, .slice none 0 0]), 3, 72) := by kernel_rfl
def OwStR (w : World) (B : Nat) (a : Option Addr) (n c : Nat) (l : List StR) : Prop := w.ownsRow B 116 3 (.slice a n c) n (l.flatMap encStR)
theorem OwStR.nil (w : World) (B : Nat) : OwStR w B none 0 0 [] := World.ownsRow_nil w B _ 3
theorem OwStR.sr {w : World} {B : Nat} {a : Option Addr} {n c : Nat} {l : List StR} (h : OwStR w B a n c l) : SStR w a n c l := by
  obtain ⟨a', c', he, hs⟩ := Sl.of_owns h
  cases he
  exact hs
theorem OwStR.keep {w w' : World} {B : Nat} {a : Option Addr} {n c : Nat} {l : List StR} (h : OwStR w B a n c l) (hb : Below w.heap.size w w') : OwStR w' B a n c l := owns_keep h hb
theorem OwStR.lt {w : World} {B : Nat} {a : Option Addr} {n c : Nat} {l : List StR} (h : OwStR w B a n c l) : ∀ g o, a = some ⟨g, o, none⟩ → B ≤ g ∧ g < w.heap.size := by
  rintro g o rfl
  exact World.ownsRow.lt h g rfl
theorem oneCell_StR (x : StR) : ∀ u ∈ encStR x, u.oneCell' = true := by
  intro u hu
  simp only [encStR, List.mem_cons, List.not_mem_nil, or_false] at hu
  rcases hu with rfl | rfl | rfl <;> rfl
end Go.Proofs.YtaiikekgckjdeaaGreat

namespace Go.Proofs.YtaiikekgckjdeaaGreat
open Go.RowKit
open Calmly (Kept)

abbrev Fl := Int × Int × List El
def fl0 : Fl := (0, 0, [])
/-- A slice of floors that reads as a frame. -/
structure FrV (w : World) (a : Option Addr) (n c : Nat) (raw : List FlR) (fs : List Fl) : Prop where
  row : SFlR w a n c raw
  len : raw.length = fs.length
  fl : ∀ i, i < fs.length → (raw[i]?.getD flr0).1 = (fs[i]?.getD fl0).1 ∧ (raw[i]?.getD flr0).2.1 = (fs[i]?.getD fl0).2.1 ∧ SEl w (raw[i]?.getD flr0).2.2.1 (raw[i]?.getD flr0).2.2.2.1 (raw[i]?.getD flr0).2.2.2.2 (fs[i]?.getD fl0).2.2
theorem FrV.keep {w w' : World} {a : Option Addr} {n c : Nat} {raw : List FlR} {fs : List Fl} (h : FrV w a n c raw fs) (hb : Below w.heap.size w w') : FrV w' a n c raw fs :=
  ⟨h.row.keep hb, h.len, fun i hi => ⟨(h.fl i hi).1, (h.fl i hi).2.1, (h.fl i hi).2.2.keep hb⟩⟩
theorem FrV.n_ {w : World} {a : Option Addr} {n c : Nat} {raw : List FlR} {fs : List Fl} (h : FrV w a n c raw fs) : n = fs.length := by rw [h.row.len, h.len]

set_option maxRecDepth 100000 in
set_option maxHeartbeats 1000000 in
theorem eachFrame_any (a : Option Addr) (n c : Nat) (l : List FlR) (w0 w : World) (err : Nat → Int) (Inv : Nat → World → Prop) (h1 : SFlR w0 a n c l) (h0 : Below w0.heap.size w0 w) (hI : Inv 0 w)
    (hst : ∀ i W W', Inv i W → Below W.heap.size W W' → Inv i W')
    (hcl : ∀ (i : Nat) (W : World), i < n → Inv i W → Below w0.heap.size w0 W → Calls Tryz.prog 106 #[.int .i64 (i : Int), .agg #[.int .i64 (l[i]?.getD flr0).1, .int .i64 (l[i]?.getD flr0).2.1, hv (l[i]?.getD flr0).2.2]] W fun e w' => e = .returned (.int .i64 (err i)) ∧ Inv (i + 1) w' ∧ Below w0.heap.size W w') :
    Calls Tryz.prog 105 #[.slice a n c, .func (.func 106) #[] #[]] w fun e w' => e = .returned (.tuple #[.int .i64 (eaF err 0 n).1, .int .i64 (eaF err 0 n).2]) ∧ Below w0.heap.size w w' := by
  have l1 : n ≤ l.length ∧ l.length ≤ n := by have := h1.len; omega
  have m1 := h1.max
  have c1 := h1.cap
  obtain ⟨I, E, hR⟩ : ∃ I E, eaF err 0 n = (I, E) := ⟨_, _, rfl⟩
  rw [hR]
  dsimp only
  have HR := Lib.hid hR
  clear hR
  have hw := h0.size
  go_enter Tryz.func105, Tryz.ntmps105
  go_wp2_with fail
  go_loopw [11] (fun i wr => ∃ k : Nat, k ≤ n ∧ i = .int .i64 k ∧ eaF err k (n - k) = (I, E) ∧ Inv k wr ∧ Below w0.heap.size w wr) (fun i _ => n - (intOf i).toNat)
  case atStart => exact ⟨0, by omega, rfl, HR.out, hI, Below.refl _ _⟩
  case round =>
    obtain ⟨k, hk, rfl, ht, hi, hbr⟩ := hrel
    have HT := Lib.hid ht
    clear ht
    have hb0 := h0.trans hbr
    have hrs := hb0.size
    by_cases hlt : k < n
    · obtain ⟨cb, co, rfl, hcc⟩ := h1.at_ (by omega)
      obtain ⟨y0, y1, y2⟩ := hcc k hlt
      replace y0 := cell_keep y0 hb0
      replace y1 := cell_keep y1 hb0
      replace y2 := cell_keep y2 hb0
      clear hcc
      have hc := hcl k
      obtain ⟨rr, hrr⟩ : ∃ rr, l[k]?.getD flr0 = rr := ⟨_, rfl⟩
      obtain ⟨x0, x1, ⟨q1, q2, q3⟩⟩ := rr
      rw [hrr] at y0 y1 y2 hc
      clear hrr
      try dsimp only [hv] at y0 y1 y2 hc
      have HC := Lib.hid hc
      clear hc
      have hi1 : (k : Int) < (n : Int) := by omega
      have hi0 : (0 : Int) ≤ (k : Int) := by omega
      obtain ⟨R, hE⟩ : ∃ R, err k = R := ⟨_, rfl⟩
      have HE := Lib.hid hE
      clear hE
      have hi9 := Lib.hid hi
      clear hi
      go_wp2_with fail
      refine (HC.out _ hlt (hst k _ _ hi9.out ((Below.refl _ _).alloc (Nat.le_refl _) (.cells #[.int .i64 x0, .int .i64 x1, .slice q1 q2 q3] 120))) (hb0.alloc hrs (.cells #[.int .i64 x0, .int .i64 x1, .slice q1 q2 q3] 120))).mono ?_
      rintro e w1 ⟨rfl, hi2, hs⟩
      rw [HE.out]
      have hbn := (hbr.alloc hrs (.cells #[.int .i64 x0, .int .i64 x1, .slice q1 q2 q3] 120)).trans hs
      have hI2 := Lib.hid hi2
      clear hi2
      by_cases hz : R = 0
      · subst hz
        have hE0 : ((0 : Int) != 0) = false := rfl
        go_wp2_with fail
        go_roundw
        case rel => exact ⟨k + 1, by omega, by go_num, (eaF_ok hlt HE.out).symm.trans HT.out, hI2.out, hbn⟩
        case measure => simp [intOf]; omega
      · have b1 : (R != 0) = true := by simpa using hz
        have hRE : (I, E) = ((k : Int), R) := by rw [← HT.out, eaF_bad hlt (by rw [HE.out]; exact hz), HE.out]
        injection hRE with e1 e2
        have E1 := Lib.hid e1
        have E2 := Lib.hid e2
        clear e1 e2 hz
        go_wp2_with fail
        refine bodyPost_ret (v := .tuple #[.int .i64 (k : Int), .int .i64 R]) (by simp [results, Tryz.results105]) rfl ⟨by rw [E1.out, E2.out], hbn⟩
    · have hle : (n : Int) ≤ (k : Int) := by omega
      have hR0 : (I, E) = (0, 0) := by rw [← HT.out, eaF_end (by omega)]
      injection hR0 with e1 e2
      subst e1 e2
      go_wp2_with fail
      refine bodyPost_ret (v := .tuple #[.int .i64 0, .int .i64 0]) (by simp [results, Tryz.results105]) rfl ⟨rfl, hbr⟩

/-- The error of a floor; index and error of a frame. -/
def flErr (x : Fl) : Int := firstE [unlessE (wIn x.1 1 10000 && wIn x.2.1 1 1000) 2, (sprE x.2.2).2]
def frmH (n : Nat) : Int := firstE [unlessE (decide (0 < n)) 10, unlessE (decide ((n : Int) ≤ 5)) 8]
def frmE (fs : List Fl) : Int × Int := if frmH fs.length = 0 then eaF (fun i => flErr (fs[i]?.getD fl0)) 0 fs.length else (0, frmH fs.length)

set_option maxRecDepth 100000 in
set_option maxHeartbeats 400000 in
theorem flErr_any (i m lim : Int) (a : Option Addr) (n c : Nat) (l : List El) (w : World) (h1 : SEl w a n c l) :
    Calls Tryz.prog 106 #[.int .i64 i, .agg #[.int .i64 m, .int .i64 lim, .slice a n c]] w fun e w' => e = .returned (.int .i64 (flErr (m, lim, l))) ∧ Below w.heap.size w w' := by
  have y0 := alloc_new w (.cells #[.int .i64 m, .int .i64 lim, .slice a n c] 120)
  have BW : Below w.heap.size w (w.alloc (.cells #[.int .i64 m, .int .i64 lim, .slice a n c] 120)) := (Below.refl _ _).alloc (Nat.le_refl _) _
  have e0 : flErr (m, lim, l) = firstE [unlessE (wIn m 1 10000 && wIn lim 1 1000) 2, (sprE l).2] := rfl
  have HE := Lib.hid e0
  clear e0
  obtain ⟨I, E, hR⟩ : ∃ I E, sprE l = (I, E) := ⟨_, _, rfl⟩
  have HR := Lib.hid hR
  clear hR
  go_enter Tryz.func106, Tryz.ntmps106
  go_wp2_with fail
  generalize w.alloc (.cells #[.int .i64 m, .int .i64 lim, .slice a n c] 120) = W at *
  refine (CheckSpring_any a n c l W (h1.keep BW)).mono ?_
  rintro e w1 ⟨rfl, hs⟩
  rw [HR.out]
  dsimp only
  replace y0 := blk_keep y0 hs
  have c0 := cell_block y0 0
  have c1 := cell_block y0 1
  have B1 := BW.trans (hs.mono BW.size)
  go_wp2_with fail
  refine (dWithin_any m 1 10000 _).mono ?_
  rintro e w2 ⟨rfl, rfl⟩
  cases hk : wIn m 1 10000
  · go_wp2_with fail
    refine (dUnless_any _ 2 _).mono ?_
    rintro e w2 ⟨rfl, rfl⟩
    go_wp2_with fail
    refine (dFirst_any _ 2 2 _ _ (SI.two _ _ _ _ rfl)).mono ?_
    rintro e w2 ⟨rfl, rfl⟩
    go_wp2_with fail
    go_ret
    exact ⟨ret_int (by rw [HE.out, hk, HR.out]; rfl), B1.alloc B1.size _⟩
  · go_wp2_with fail
    refine (dWithin_any lim 1 1000 _).mono ?_
    rintro e w2 ⟨rfl, rfl⟩
    go_wp2_with fail
    refine (dUnless_any _ 2 _).mono ?_
    rintro e w2 ⟨rfl, rfl⟩
    go_wp2_with fail
    refine (dFirst_any _ 2 2 _ _ (SI.two _ _ _ _ rfl)).mono ?_
    rintro e w2 ⟨rfl, rfl⟩
    go_wp2_with fail
    go_ret
    exact ⟨ret_int (by rw [HE.out, hk, HR.out]; rfl), B1.alloc B1.size _⟩

set_option maxRecDepth 100000 in
set_option maxHeartbeats 1000000 in
theorem CheckFrame_any (a : Option Addr) (n c : Nat) (raw : List FlR) (fs : List Fl) (w : World) (h1 : FrV w a n c raw fs) :
    Calls Tryz.prog 94 #[.agg #[.slice a n c]] w fun e w' => e = .returned (.tuple #[.int .i64 (frmE fs).1, .int .i64 (frmE fs).2]) ∧ Below w.heap.size w w' := by
  have hn := h1.n_
  have m1 := h1.row.max
  have c1 := h1.row.cap
  have hS : frmE fs = if frmH n = 0 then eaF (fun i => flErr (fs[i]?.getD fl0)) 0 n else (0, frmH n) := by rw [frmE, hn]
  have hH : frmH n = firstE [unlessE (decide (0 < n)) 10, unlessE (decide ((n : Int) ≤ 5)) 8] := rfl
  have HS := Lib.hid hS
  have HH := Lib.hid hH
  have HN := Lib.hid hn
  clear hS hH hn
  have y0 := alloc_new w (.cells #[.slice a n c] 71)
  have BW : Below w.heap.size w (w.alloc (.cells #[.slice a n c] 71)) := (Below.refl _ _).alloc (Nat.le_refl _) _
  go_enter Tryz.func94, Tryz.ntmps94
  go_wp2_with fail
  generalize w.alloc (.cells #[.slice a n c] 71) = W at *
  refine Calmly.wp_region_mix 12 (.fl 0 <| .fl 1 <| .fl 2 <| .fl 3 <| .fl 5 <| .fl 6 <| .fl 7 <| .fl 8 <| .eff 4 <| .eff 9 <| .eff 10 <| .eff 11 <| .tail [12]) (by kernel_rfl) (by kernel_rfl) ?_
  replace y0 := blk_keep y0 (Below.refl _ _).drew
  replace BW := BW.drew
  generalize W.drew = V at *
  have f0 := cell_block y0 0
  have hk := Below.refl V.heap.size V
  go_wp2_with (first | ((with_reducible refine Calmly.is_fl ?_); refine Calmly.mix_fl rfl ?_ (fun _ _ => ?_); (first | exact .move _ | exact .load _ _ | exact .fieldAddr _ _ _ (by kernel_rfl) | exact .assign _ | exact .binOp _ _ _ _ _ rfl | exact .indexAddr _ _ _ | exact .len _ _ (by kernel_rfl) | exact .field _ _ _ | exact .extract _ _ | exact .pick _ _ _ | exact .build _ _ | exact .slice _ _ _ _ _ | exact .unOp _ _ _ rfl | exact .index _ _ _ | exact .max _ _ _ rfl rfl | exact .min _ _ _ rfl rfl | exact .nilCheck _ _ rfl)) | ((with_reducible refine Calmly.is_gl ?_); refine Calmly.mix_gl rfl rfl rfl ?_; first | ((first | with_reducible refine Calmly.gl_tt ?_ (fun _ _ => ?_) | with_reducible refine Calmly.gl_ff ?_ (fun _ _ => ?_)); (first | exact .move _ | exact .load _ _ | exact .fieldAddr _ _ _ (by kernel_rfl) | exact .assign _ | exact .binOp _ _ _ _ _ rfl | exact .indexAddr _ _ _ | exact .len _ _ (by kernel_rfl) | exact .field _ _ _ | exact .extract _ _ | exact .pick _ _ _ | exact .build _ _ | exact .slice _ _ _ _ _ | exact .unOp _ _ _ rfl | exact .index _ _ _ | exact .max _ _ _ rfl rfl | exact .min _ _ _ rfl rfl | exact .nilCheck _ _ rfl)) | with_reducible refine Calmly.gl_tf (fun _ _ => ?_) | with_reducible refine Calmly.gl_ft (fun _ _ => ?_)) | ((with_reducible refine Calmly.is_eff ?_); refine Calmly.mix_eff rfl (fun _ _ => ?_)) | ((with_reducible refine Calmly.is_gf ?_); refine Calmly.mix_gf rfl rfl rfl ?_; first | with_reducible refine Calmly.gf_tt (fun _ _ => ?_) | with_reducible refine Calmly.gf_ff (fun _ _ => ?_) | with_reducible refine Calmly.gf_tf (kept_of hk) (fun _ _ => ?_) | with_reducible refine Calmly.gf_ft (kept_of hk) (fun _ _ => ?_)) | ((with_reducible refine Calmly.is_kept ?_); refine ⟨kept_of hk, ?_⟩) | (with_reducible refine Calmly.mix_alt ?_ ?_) | (refine kept_alloc hk (fun hk' hblk hge => ?_); replace hk := hk'; clear hk') | (go_at_call 32; refine (dUnless_any _ _ _).mono ?_; rintro e w1 ⟨rfl, rfl⟩))
  refine (dFirst_any _ 2 2 _ _ (SI.two _ _ _ _ (by simp))).mono ?_
  rintro e w1 ⟨rfl, rfl⟩
  rw [← HH.out]
  obtain ⟨H, hH⟩ : ∃ H, frmH n = H := ⟨_, rfl⟩
  rw [hH]
  have HK := Lib.hid hH
  clear hH
  generalize V.alloc _ = X at *
  replace y0 := blk_keep y0 hk
  replace f0 := cell_keep f0 hk
  by_cases hz : H = 0
  · have b1 : (H != 0) = false := by rw [hz]; rfl
    have HZ := Lib.hid hz
    clear hz
    go_wp2_with (first | ((with_reducible refine Calmly.is_fl ?_); refine Calmly.mix_fl rfl ?_ (fun _ _ => ?_); (first | exact .move _ | exact .load _ _ | exact .fieldAddr _ _ _ (by kernel_rfl) | exact .assign _ | exact .binOp _ _ _ _ _ rfl | exact .indexAddr _ _ _ | exact .len _ _ (by kernel_rfl) | exact .field _ _ _ | exact .extract _ _ | exact .pick _ _ _ | exact .build _ _ | exact .slice _ _ _ _ _ | exact .unOp _ _ _ rfl | exact .index _ _ _ | exact .max _ _ _ rfl rfl | exact .min _ _ _ rfl rfl | exact .nilCheck _ _ rfl)) | ((with_reducible refine Calmly.is_gl ?_); refine Calmly.mix_gl rfl rfl rfl ?_; first | ((first | with_reducible refine Calmly.gl_tt ?_ (fun _ _ => ?_) | with_reducible refine Calmly.gl_ff ?_ (fun _ _ => ?_)); (first | exact .move _ | exact .load _ _ | exact .fieldAddr _ _ _ (by kernel_rfl) | exact .assign _ | exact .binOp _ _ _ _ _ rfl | exact .indexAddr _ _ _ | exact .len _ _ (by kernel_rfl) | exact .field _ _ _ | exact .extract _ _ | exact .pick _ _ _ | exact .build _ _ | exact .slice _ _ _ _ _ | exact .unOp _ _ _ rfl | exact .index _ _ _ | exact .max _ _ _ rfl rfl | exact .min _ _ _ rfl rfl | exact .nilCheck _ _ rfl)) | with_reducible refine Calmly.gl_tf (fun _ _ => ?_) | with_reducible refine Calmly.gl_ft (fun _ _ => ?_)) | ((with_reducible refine Calmly.is_eff ?_); refine Calmly.mix_eff rfl (fun _ _ => ?_)) | ((with_reducible refine Calmly.is_gf ?_); refine Calmly.mix_gf rfl rfl rfl ?_; first | with_reducible refine Calmly.gf_tt (fun _ _ => ?_) | with_reducible refine Calmly.gf_ff (fun _ _ => ?_) | with_reducible refine Calmly.gf_tf (kept_of hk) (fun _ _ => ?_) | with_reducible refine Calmly.gf_ft (kept_of hk) (fun _ _ => ?_)) | ((with_reducible refine Calmly.is_tail ?_); first | refine Calmly.mix_tail_nil ?_ | refine Calmly.mix_tail rfl (fun _ _ => ?_)) | ((with_reducible refine Calmly.is_kept ?_); refine ⟨kept_of hk, ?_⟩) | (with_reducible refine Calmly.mix_alt ?_ ?_))
    refine (eachFrame_any a n c raw X X (fun i => flErr (fs[i]?.getD fl0)) (fun _ _ => True) ((h1.keep BW).keep hk).row (Below.refl _ _) trivial (fun _ _ _ _ _ => trivial) ?_).mono ?_
    · intro i V' hi _ hV
      obtain ⟨r1, r2, r3⟩ := (((h1.keep BW).keep hk).keep hV).fl i (by rw [← HN.out]; exact hi)
      rw [r1, r2]
      refine (flErr_any i (fs[i]?.getD fl0).1 (fs[i]?.getD fl0).2.1 _ _ _ _ V' r3).mono ?_
      rintro e w1 ⟨rfl, hs⟩
      exact ⟨rfl, trivial, hs.mono hV.size⟩
    rintro e w1 ⟨rfl, hs⟩
    go_wp2_with (first | ((with_reducible refine Calmly.is_fl ?_); refine Calmly.mix_fl rfl ?_ (fun _ _ => ?_); (first | exact .move _ | exact .load _ _ | exact .fieldAddr _ _ _ (by kernel_rfl) | exact .assign _ | exact .binOp _ _ _ _ _ rfl | exact .indexAddr _ _ _ | exact .len _ _ (by kernel_rfl) | exact .field _ _ _ | exact .extract _ _ | exact .pick _ _ _ | exact .build _ _ | exact .slice _ _ _ _ _ | exact .unOp _ _ _ rfl | exact .index _ _ _ | exact .max _ _ _ rfl rfl | exact .min _ _ _ rfl rfl | exact .nilCheck _ _ rfl)) | ((with_reducible refine Calmly.is_gl ?_); refine Calmly.mix_gl rfl rfl rfl ?_; first | ((first | with_reducible refine Calmly.gl_tt ?_ (fun _ _ => ?_) | with_reducible refine Calmly.gl_ff ?_ (fun _ _ => ?_)); (first | exact .move _ | exact .load _ _ | exact .fieldAddr _ _ _ (by kernel_rfl) | exact .assign _ | exact .binOp _ _ _ _ _ rfl | exact .indexAddr _ _ _ | exact .len _ _ (by kernel_rfl) | exact .field _ _ _ | exact .extract _ _ | exact .pick _ _ _ | exact .build _ _ | exact .slice _ _ _ _ _ | exact .unOp _ _ _ rfl | exact .index _ _ _ | exact .max _ _ _ rfl rfl | exact .min _ _ _ rfl rfl | exact .nilCheck _ _ rfl)) | with_reducible refine Calmly.gl_tf (fun _ _ => ?_) | with_reducible refine Calmly.gl_ft (fun _ _ => ?_)) | ((with_reducible refine Calmly.is_eff ?_); refine Calmly.mix_eff rfl (fun _ _ => ?_)) | ((with_reducible refine Calmly.is_gf ?_); refine Calmly.mix_gf rfl rfl rfl ?_; first | with_reducible refine Calmly.gf_tt (fun _ _ => ?_) | with_reducible refine Calmly.gf_ff (fun _ _ => ?_) | with_reducible refine Calmly.gf_tf (kept_of hk) (fun _ _ => ?_) | with_reducible refine Calmly.gf_ft (kept_of hk) (fun _ _ => ?_)) | ((with_reducible refine Calmly.is_tail ?_); first | refine Calmly.mix_tail_nil ?_ | refine Calmly.mix_tail rfl (fun _ _ => ?_)) | ((with_reducible refine Calmly.is_kept ?_); refine ⟨kept_of hk, ?_⟩) | (with_reducible refine Calmly.mix_alt ?_ ?_))
    refine bodyPost_ret (v := .tuple #[.int .i64 (eaF (fun i => flErr (fs[i]?.getD fl0)) 0 n).1, .int .i64 (eaF (fun i => flErr (fs[i]?.getD fl0)) 0 n).2]) (by simp [results, Tryz.results94]) rfl ⟨by rw [HS.out, if_pos (by rw [HK.out, HZ.out])], (BW.trans (hk.mono BW.size)).trans (hs.mono (by have := BW.size; have := hk.size; omega))⟩
  · have b1 : (H != 0) = true := by simpa using hz
    have HZ := Lib.hid hz
    clear hz
    go_wp2_with (first | ((with_reducible refine Calmly.is_fl ?_); refine Calmly.mix_fl rfl ?_ (fun _ _ => ?_); (first | exact .move _ | exact .load _ _ | exact .fieldAddr _ _ _ (by kernel_rfl) | exact .assign _ | exact .binOp _ _ _ _ _ rfl | exact .indexAddr _ _ _ | exact .len _ _ (by kernel_rfl) | exact .field _ _ _ | exact .extract _ _ | exact .pick _ _ _ | exact .build _ _ | exact .slice _ _ _ _ _ | exact .unOp _ _ _ rfl | exact .index _ _ _ | exact .max _ _ _ rfl rfl | exact .min _ _ _ rfl rfl | exact .nilCheck _ _ rfl)) | ((with_reducible refine Calmly.is_gl ?_); refine Calmly.mix_gl rfl rfl rfl ?_; first | ((first | with_reducible refine Calmly.gl_tt ?_ (fun _ _ => ?_) | with_reducible refine Calmly.gl_ff ?_ (fun _ _ => ?_)); (first | exact .move _ | exact .load _ _ | exact .fieldAddr _ _ _ (by kernel_rfl) | exact .assign _ | exact .binOp _ _ _ _ _ rfl | exact .indexAddr _ _ _ | exact .len _ _ (by kernel_rfl) | exact .field _ _ _ | exact .extract _ _ | exact .pick _ _ _ | exact .build _ _ | exact .slice _ _ _ _ _ | exact .unOp _ _ _ rfl | exact .index _ _ _ | exact .max _ _ _ rfl rfl | exact .min _ _ _ rfl rfl | exact .nilCheck _ _ rfl)) | with_reducible refine Calmly.gl_tf (fun _ _ => ?_) | with_reducible refine Calmly.gl_ft (fun _ _ => ?_)) | ((with_reducible refine Calmly.is_eff ?_); refine Calmly.mix_eff rfl (fun _ _ => ?_)) | ((with_reducible refine Calmly.is_gf ?_); refine Calmly.mix_gf rfl rfl rfl ?_; first | with_reducible refine Calmly.gf_tt (fun _ _ => ?_) | with_reducible refine Calmly.gf_ff (fun _ _ => ?_) | with_reducible refine Calmly.gf_tf (kept_of hk) (fun _ _ => ?_) | with_reducible refine Calmly.gf_ft (kept_of hk) (fun _ _ => ?_)) | ((with_reducible refine Calmly.is_tail ?_); first | refine Calmly.mix_tail_nil ?_ | refine Calmly.mix_tail rfl (fun _ _ => ?_)) | ((with_reducible refine Calmly.is_kept ?_); refine ⟨kept_of hk, ?_⟩) | (with_reducible refine Calmly.mix_alt ?_ ?_))
    refine bodyPost_ret (v := .tuple #[.int .i64 0, .int .i64 H]) (by simp [results, Tryz.results94]) rfl ⟨by rw [HS.out, if_neg (by rw [HK.out]; exact HZ.out), HK.out], BW.trans (hk.mono BW.size)⟩
end Go.Proofs.YtaiikekgckjdeaaGreat
