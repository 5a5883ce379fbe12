/- The reference's next displacements. The balance of a step: plain, and the model's. Plain law of moves: work is not lost. Moves of a valid hold: contracts for the law of works. Whether states are equal. -/
import Derived.Test.YtaiikekgckjdeaaK24
namespace Go.Proofs.Ytaiikekgckjdeaa
open Go.RowKit
open Calmly (Kept)
theorem ediv_bd {x d M : Int} (h1 : -M ≤ x) (h2 : x ≤ M) (hd : 1 ≤ d) (hM : 0 ≤ M) : -M ≤ x / d ∧ x / d ≤ M := by
  constructor
  · have h3 : -M / d ≤ x / d := Int.ediv_le_ediv (by omega) h1
    have h4 : -M ≤ -M / d := by
      rw [Int.le_ediv_iff_mul_le (by omega)]
      have := Int.mul_le_mul_of_nonneg_left hd hM
      have h5 : -M * d = -(M * d) := Int.neg_mul M d
      omega
    omega
  · have h3 : x / d ≤ M / d := Int.ediv_le_ediv (by omega) h2
    have h4 : M / d ≤ M := Int.ediv_le_self d hM
    omega
/-- An append to a row of numbers of the call's own, within a plan against an older world. -/
theorem mix_appO (i : Nat) {w0 Wx : World} {B : Nat} {k : Calmly.Plan} {dst : Option Tmp} {s x : Operand} {ty : TypeId} {pos : String} {after : Array Edge} {a : Act} {W0 : World} {ops : Array Oper} {Q : Exit → Act → World → Prop} {av : Option Addr} {n c : Nat} {xs : List Int} {v : Int}
    (hW : Wx = w0.alloc (.cells #[.int .i64 v] 3)) (hi : ops[i]? = some ⟨dst, .call { callee := .builtin .append, args := #[s, x], argTypes := #[25, 25] }, ty, pos, after, none⟩)
    (hown : OwI w0 B av n c xs) (hs : a.eval s = .slice av n c) (hx : a.eval x = .slice (some ⟨w0.heap.size, 0, none⟩) 1 1) (hb1 : n + 1 ≤ 17592186044416) (hB : B ≤ w0.heap.size)
    (h : ∀ a' c' w', OwI w' B a' (n + 1) c' (xs ++ [v]) → Below B w0 w' → w0.heap.size ≤ w'.heap.size → Kept W0 w' ∧ Calmly.WpMix Try.prog ops Q W0 k (a.put dst (.slice a' (n + 1) c')) w') :
    Calmly.WpMix Try.prog ops Q W0 (.eff i k) a Wx := by
  subst hW
  refine Calmly.mix_eff hi (fun K hK => ?_)
  obtain ⟨i0, hi0, hz0, hz1, hz2⟩ := info_parts Try.info_int
  have hb : Below B w0 (w0.alloc (.cells #[.int .i64 v] 3)) := (Below.refl _ _).alloc hB _
  obtain ⟨v', w', hrun, r1, r2, _⟩ := run_append_own (P := Try.prog) (w0.alloc (.cells #[.int .i64 v] 3)) B 25 ty _ i0 (.int .i64 0) 1 8 Try.underlying25 hi0 hz0 hz1 hz2 rfl (by decide) (.slice av n c) n _ (World.ownsRow.alloc hown _) ⟨w0.heap.size, 0, none⟩ 1 1 [Value.int .i64 v] rfl (cells_new w0 _ _) (by simp [Value.oneCell']) (by unfold maxLen; omega) (by omega) (by simp; omega)
  obtain ⟨a', c', rfl⟩ := owns_slice r1
  have hrow : ∀ j, (Value.slice av n c).ownBlock = some j → B ≤ j := fun j hj => (World.ownsRow.lt hown j hj).1
  have hb2 : Below B w0 w' := hb.trans (grown_below r2 (by simp; omega) hrow)
  have ho : OwI w' B a' (n + 1) c' (xs ++ [v]) := by unfold OwI; simpa using r1
  unfold Oper.wp
  simp [execOp, resolve, invoke, builtin, hs, hx, hrun, Result.andThen]
  exact hK _ _ (h a' c' w' ho hb2 hb2.size)
/-- What lies between two rounds. -/
structure NxI (w : World) (a a1 a2 a3 : Option Addr) (n c n1 c1 n2 c2 n3 c3 k : Nat) (av : Option Addr) (cv : Nat) (rows : List Int) (W : World) : Prop where
  bel : Below w.heap.size w W
  r3 : W.heap[w.heap.size]? = some (.cells #[.slice a n c] 24)
  r4 : W.heap[w.heap.size + 1]? = some (.cells #[.slice a1 n1 c1, .slice a2 n2 c2, .slice a3 n3 c3] 97)
  out : OwI W (w.heap.size + 1 + 1) av k cv rows
  sz : w.heap.size + 1 + 1 ≤ W.heap.size
set_option maxRecDepth 100000 in
set_option maxHeartbeats 2000000 in
theorem rNext_any (a a1 a2 a3 : Option Addr) (n c n1 c1 n2 c2 n3 c3 : Nat) (g : Int) (raw : List FlR) (fs : List Fl) (s : St) (w : World) (h1 : FrV w a n c raw fs) (h2 : StW w ((a1, n1, c1), (a2, n2, c2), (a3, n3, c3)) s) (hO : StOk fs s) (hg : -100 ≤ g ∧ g ≤ 100) :
    Calls Try.prog 120 #[.agg #[.slice a n c], .agg #[.slice a1 n1 c1, .slice a2 n2 c2, .slice a3 n3 c3], .int .i64 g] w fun e w' => ∃ av cv, e = .returned (.slice av n cv) ∧ OwI w' w.heap.size av n cv (nxts fs s g) ∧ Below w.heap.size w w' := by
  have hln := h1.n_
  have hln1 : n1 = n := by have h5 := h2.now.len; have h6 := hO.now; dsimp only at h5; omega
  have hln2 : n2 = n := by have h5 := h2.bef.len; have h6 := hO.bef; dsimp only at h5; omega
  have m1 := h1.row.max
  have cc1 := h1.row.cap
  have m2 := h2.now.max
  have cc2 := h2.now.cap
  have m3 := h2.bef.max
  have cc3 := h2.bef.cap
  dsimp only at m2 cc2 m3 cc3
  have hfo := frmE_ok hO.frm
  have hn5 : n ≤ 5 := by omega
  subst hln1 hln2
  obtain ⟨g1, g2⟩ := hg
  have HLN := Lib.hid hln
  have HFO := Lib.hid hfo.2
  have y3 := blk_keep (alloc_new w (.cells #[.slice a n2 c] 24)) ((Below.refl _ _).alloc (Nat.le_refl _) (.cells #[.slice a1 n2 c1, .slice a2 n2 c2, .slice a3 n3 c3] 97))
  have y4 := alloc_new (w.alloc (.cells #[.slice a n2 c] 24)) (.cells #[.slice a1 n2 c1, .slice a2 n2 c2, .slice a3 n3 c3] 97)
  have BW : Below w.heap.size w ((w.alloc (.cells #[.slice a n2 c] 24)).alloc (.cells #[.slice a1 n2 c1, .slice a2 n2 c2, .slice a3 n3 c3] 97)) := ((Below.refl _ _).alloc (Nat.le_refl _) _).alloc (by simp) _
  have hsz : ((w.alloc (.cells #[.slice a n2 c] 24)).alloc (.cells #[.slice a1 n2 c1, .slice a2 n2 c2, .slice a3 n3 c3] 97)).heap.size = w.heap.size + 1 + 1 := by simp
  have HSZ := Lib.hid hsz
  simp only [World.size_alloc] at y4
  clear hln hfo hsz
  go_enter Try.func120, Try.ntmps120
  go_wp2_with fail
  generalize (w.alloc (.cells #[.slice a n2 c] 24)).alloc (.cells #[.slice a1 n2 c1, .slice a2 n2 c2, .slice a3 n3 c3] 97) = W at *
  go_loopw [7, 8] (fun x i wr => ∃ (k : Nat) (av : Option Addr) (cv : Nat), k ≤ n2 ∧ i = .int .i64 (k : Int) ∧ x = .slice av k cv ∧ NxI w a a1 a2 a3 n2 c n2 c1 n2 c2 n3 c3 k av cv ((List.range k).map (nxS fs s g)) wr ∧ Below W.heap.size W wr) (fun _ i _ => n2 - (intOf i).toNat)
  case atStart => exact ⟨0, none, 0, by omega, rfl, rfl, ⟨BW, y3, y4, OwI.nil _ _, by rw [HSZ.out]; omega⟩, Below.refl _ _⟩
  case round =>
    obtain ⟨k, av, cv, hk, rfl, rfl, ⟨hb, z3, z4, hOw, hsz⟩, hbW⟩ := hrel
    have f0 := cell_block z3 0
    by_cases hlt : k < n2
    · have hkl : k < fs.length := by have := HLN.out; omega
      have hi : (k : Int) < (n2 : Int) := by omega
      have hi0 : (0 : Int) ≤ (k : Int) := by omega
      go_wp2_with fail
      refine Calmly.wp_region_mix_at W (kept_of hbW) 29 (.fl 0 <| .fl 1 <| .fl 2 <| .fl 3 <| .fl 4 <| .fl 5 <| .fl 6 <| .fl 7 <| .fl 8 <| .fl 9 <| .fl 10 <| .fl 11 <| .fl 12 <| .fl 13 <| .fl 14 <| .fl 15 <| .fl 17 <| .fl 18 <| .fl 19 <| .fl 20 <| .fl 21 <| .fl 22 <| .fl 25 <| .eff 16 <| .eff 23 <| .fl 24 <| .fl 26 <| .eff 27 <| .eff 28 <| .tail [29]) (by kernel_rfl) (by kernel_rfl) ?_
      have BD : Below wr.heap.size wr wr.drew := (Below.refl _ _).drew
      replace z3 := blk_keep z3 BD
      replace z4 := blk_keep z4 BD
      replace hOw := OwI.keepM hOw BD
      replace hb := hb.trans (BD.mono hb.size)
      replace hbW := hbW.trans (BD.mono hbW.size)
      have hsz2 : w.heap.size + 1 + 1 ≤ wr.drew.heap.size := Nat.le_trans hsz BD.size
      clear BD hsz f0
      generalize wr.drew = V at *
      have hF := h1.keep BW
      have hSt := h2.keep BW
      have hmass := (flErr_ok (HFO.out k hkl)).1
      have hnb := hO.nbd k
      have hbb := hO.bbd k
      have hpb := psA_bd (F := frS fs s) (k := fs.length) (i := k) (M := 200000000) (fun i => hO.frS_bd i)
      have hnx : nxS fs s g k = 2 * s.1[k]?.getD 0 - s.2.1[k]?.getD 0 + psA (frS fs s) fs.length k / (fs[k]?.getD fl0).1 - g := rfl
      have hrows : (List.range (k + 1)).map (nxS fs s g) = (List.range k).map (nxS fs s g) ++ [nxS fs s g k] := by rw [List.range_succ, List.map_append]; rfl
      rw [hnx] at hrows
      obtain ⟨b1', o1, e1', hc1⟩ := hF.row.at_ (by omega)
      obtain ⟨b2', o2, e2', hc2⟩ := hSt.now.at_ (show 0 < n2 by omega)
      obtain ⟨b3', o3, e3', hc3⟩ := hSt.bef.at_ (show 0 < n2 by omega)
      dsimp only at e2' e3'
      subst e1' e2' e3'
      obtain ⟨p0, _, _⟩ := hc1 k hlt
      have q0 := hc2 k hlt
      have r0 := hc3 k hlt
      rw [(hF.fl k hkl).1] at p0
      obtain ⟨MS, hMS⟩ : ∃ x, (fs[k]?.getD fl0).1 = x := ⟨_, rfl⟩
      obtain ⟨NW, hNW⟩ : ∃ x, s.1[k]?.getD 0 = x := ⟨_, rfl⟩
      obtain ⟨BF, hBF⟩ : ∃ x, s.2.1[k]?.getD 0 = x := ⟨_, rfl⟩
      obtain ⟨PA, hPA⟩ : ∃ x, psA (frS fs s) fs.length k = x := ⟨_, rfl⟩
      rw [hMS] at p0 hmass hrows
      rw [hNW] at q0 hnb hrows
      rw [hBF] at r0 hbb hrows
      rw [hPA] at hpb hrows
      have hfl := ediv_bd (x := PA) (d := MS) (M := 400000000) (by omega) (by omega) (by omega) (by omega)
      obtain ⟨FQ, hFQ⟩ : ∃ x, PA / MS = x := ⟨_, rfl⟩
      rw [hFQ] at hfl hrows
      obtain ⟨k1, k2⟩ := hmass
      obtain ⟨k3, k4⟩ := hnb
      obtain ⟨k5, k6⟩ := hbb
      obtain ⟨k7, k8⟩ := hpb
      obtain ⟨k9, k10⟩ := hfl
      have HROWS := Lib.hid hrows
      have HPA := Lib.hid hPA
      have HFQ := Lib.hid hFQ
      have hkn := hlt
      clear hc1 hc2 hc3 hnx hrows hMS hNW hBF hPA hFQ hk hlt
      have hk := hbW
      have f0 := cell_block y3 0
      have g0 := cell_block y4 0
      have g1' := cell_block y4 1
      have g2' := cell_block y4 2
      go_wp2_with (first | (refine mix_appO (w0 := w5) (B := w.heap.size + 1 + 1) 28 rfl rfl hO5 rfl rfl (by omega) hB5 (fun a9 c9 w9 ho9 hb9 hs9 => ?_); have hk9 := hk5.trans (show Below W.heap.size w5 w9 by rw [HSZ.out]; exact hb9); refine ⟨kept_of hk9, ?_⟩) | ((with_reducible refine Calmly.is_fl ?_); refine Calmly.mix_fl rfl ?_ (fun _ _ => ?_); (first | exact .move _ | exact .load _ _ | exact .fieldAddr _ _ _ (by kernel_rfl) | exact .assign _ | exact .binOp _ _ _ _ _ rfl | exact .indexAddr _ _ _ | exact .len _ _ (by kernel_rfl) | exact .field _ _ _ | exact .extract _ _ | exact .pick _ _ _ | exact .build _ _ | exact .slice _ _ _ _ _ | exact .unOp _ _ _ rfl | exact .index _ _ _ | exact .max _ _ _ rfl rfl | exact .min _ _ _ rfl rfl | exact .nilCheck _ _ rfl)) | ((with_reducible refine Calmly.is_gl ?_); refine Calmly.mix_gl rfl rfl rfl ?_; first | ((first | with_reducible refine Calmly.gl_tt ?_ (fun _ _ => ?_) | with_reducible refine Calmly.gl_ff ?_ (fun _ _ => ?_)); (first | exact .move _ | exact .load _ _ | exact .fieldAddr _ _ _ (by kernel_rfl) | exact .assign _ | exact .binOp _ _ _ _ _ rfl | exact .indexAddr _ _ _ | exact .len _ _ (by kernel_rfl) | exact .field _ _ _ | exact .extract _ _ | exact .pick _ _ _ | exact .build _ _ | exact .slice _ _ _ _ _ | exact .unOp _ _ _ rfl | exact .index _ _ _ | exact .max _ _ _ rfl rfl | exact .min _ _ _ rfl rfl | exact .nilCheck _ _ rfl)) | with_reducible refine Calmly.gl_tf (fun _ _ => ?_) | with_reducible refine Calmly.gl_ft (fun _ _ => ?_)) | ((with_reducible refine Calmly.is_eff ?_); refine Calmly.mix_eff rfl (fun _ _ => ?_)) | ((with_reducible refine Calmly.is_gf ?_); refine Calmly.mix_gf rfl rfl rfl ?_; first | with_reducible refine Calmly.gf_tt (fun _ _ => ?_) | with_reducible refine Calmly.gf_ff (fun _ _ => ?_) | with_reducible refine Calmly.gf_tf (kept_of hk) (fun _ _ => ?_) | with_reducible refine Calmly.gf_ft (kept_of hk) (fun _ _ => ?_)) | ((with_reducible refine Calmly.is_tail ?_); first | refine Calmly.mix_tail_nil ?_ | refine Calmly.mix_tail rfl (fun _ _ => ?_)) | ((with_reducible refine Calmly.is_kept ?_); refine ⟨kept_of hk, ?_⟩) | (with_reducible refine Calmly.mix_alt ?_ ?_) | (refine kept_alloc hk (fun hk' hblk hge => ?_); replace hk := hk'; clear hk') | (go_at_call 121; refine (rPush_any _ _ _ _ n2 c n2 c1 n2 c2 n3 c3 k raw fs s _ (hF.keep hk) (hSt.keep hk) hO hkn).mono ?_; rintro e w5 ⟨rfl, hb5⟩; rw [HPA.out]; have hO5 := OwI.keepM hOw hb5; have hB5 := Nat.le_trans hsz2 hb5.size; replace hk := step_of hk hb5; have hk5 := hk; have hb6 := hb.trans (hb5.mono hb.size)) | (go_at_call 142; refine (floor_any PA MS _ (by omega) (by omega) (by omega) (by omega)).mono ?_; rintro e w6 ⟨rfl, rfl⟩; rw [HFQ.out]))
      go_roundw
      case rel => exact ⟨k + 1, a9, c9, by omega, by go_num, rfl, ⟨hb6.trans (hb9.mono (by omega)), blk_keep y3 hk9, blk_keep y4 hk9, by rw [HROWS.out]; exact ho9, by have := hb9.size; omega⟩, hk9⟩
      case measure => simp [intOf]; omega
    · have hle : (n2 : Int) ≤ (k : Int) := by omega
      obtain rfl : n2 = k := by omega
      clear hlt hk
      go_wp2_with fail
      go_ret
      exact ⟨_, _, rfl, by rw [nxts, ← HLN.out]; exact owns_lower hOw (by omega), hb⟩
end Go.Proofs.Ytaiikekgckjdeaa

namespace Go.Proofs.Ytaiikekgckjdeaa
open Go.RowKit
open Calmly (Kept)
/-- The parts of a floor in a balance, with the push, the mass, the displacements. -/
def baV (fs : List Fl) (s : St) (g : Int) (i : Nat) : Int := nxS fs s g i - s.1[i]?.getD 0
def baU (s : St) (i : Nat) : Int := s.1[i]?.getD 0 - s.2.1[i]?.getD 0
def baP (fs : List Fl) (s : St) (i : Nat) : Int := psA (frS fs s) fs.length i
def baM (fs : List Fl) (i : Nat) : Int := (fs[i]?.getD fl0).1
def baK (fs : List Fl) (s : St) (g : Int) (i : Nat) : Int := baM fs i * (baV fs s g i * baV fs s g i - baU s i * baU s i)
def baS (fs : List Fl) (s : St) (g : Int) (i : Nat) : Int := baP fs s i * (baV fs s g i + baU s i)
def baG (fs : List Fl) (s : St) (g : Int) (i : Nat) : Int := baM fs i * g * (baV fs s g i + baU s i)
def baR (fs : List Fl) (s : St) (g : Int) (i : Nat) : Int := baP fs s i % baM fs i * (baV fs s g i + baU s i)
/-- What is known of one floor in a balance. -/
structure BaF (M P g X NW BF : Int) (V U Wv VV UU DV KF SF MG GF FQ MQ RR RF : Int) : Prop where
  v : X - NW = V
  u : NW - BF = U
  w : V + U = Wv
  vv : V * V = VV
  uu : U * U = UU
  dv : VV - UU = DV
  kf : M * DV = KF
  sf : P * Wv = SF
  mg : M * g = MG
  gf : MG * Wv = GF
  fq : P / M = FQ
  mq : M * FQ = MQ
  rr : P - MQ = RR
  rm : P % M = RR
  rf : RR * Wv = RF
  bv : -500000000 ≤ V ∧ V ≤ 500000000
  bu : -20000 ≤ U ∧ U ≤ 20000
  bw : -500000000 ≤ Wv ∧ Wv ≤ 500000000
  bvv : -250000000000000000 ≤ VV ∧ VV ≤ 250000000000000000
  buu : -400000000 ≤ UU ∧ UU ≤ 400000000
  bkf : -600000000000000000 ≤ KF ∧ KF ≤ 600000000000000000
  bsf : -200000000000000000 ≤ SF ∧ SF ≤ 200000000000000000
  bmg : -1000000 ≤ MG ∧ MG ≤ 1000000
  bgf : -500000000000000 ≤ GF ∧ GF ≤ 500000000000000
  bfq : -400000000 ≤ FQ ∧ FQ ≤ 400000000
  bmq : -500000000 ≤ MQ ∧ MQ ≤ 500000000
  brr : 0 ≤ RR ∧ RR ≤ 10000
  brf : -5000000000000 ≤ RF ∧ RF ≤ 5000000000000
  bm : 1 ≤ M ∧ M ≤ 10000
  bp : -400000000 ≤ P ∧ P ≤ 400000000
  bg : -100 ≤ g ∧ g ≤ 100
  bx : -500000000 ≤ X ∧ X ≤ 500000000
  bnw : -10000 ≤ NW ∧ NW ≤ 10000
  bbf : -10000 ≤ BF ∧ BF ≤ 10000
theorem baF_of {M P g X NW BF : Int} (bm : 1 ≤ M ∧ M ≤ 10000) (bp : -400000000 ≤ P ∧ P ≤ 400000000) (bg : -100 ≤ g ∧ g ≤ 100) (bnw : -10000 ≤ NW ∧ NW ≤ 10000) (bbf : -10000 ≤ BF ∧ BF ≤ 10000) (hX : X = 2 * NW - BF + P / M - g) :
    ∃ V U Wv VV UU DV KF SF MG GF FQ MQ RR RF, BaF M P g X NW BF V U Wv VV UU DV KF SF MG GF FQ MQ RR RF := by
  obtain ⟨FQ, hFQ⟩ : ∃ q, P / M = q := ⟨_, rfl⟩
  have hq := ediv_bd (x := P) (d := M) (M := 400000000) bp.1 bp.2 bm.1 (by omega)
  have hdm := Int.mul_ediv_add_emod P M
  have hr0 := Int.emod_nonneg P (show M ≠ 0 by omega)
  have hr1 := Int.emod_lt_of_pos P (show 0 < M by omega)
  rw [hFQ] at hq hX hdm
  obtain ⟨MQ, hMQ⟩ : ∃ q, M * FQ = q := ⟨_, rfl⟩
  obtain ⟨RR, hRR⟩ : ∃ q, P % M = q := ⟨_, rfl⟩
  rw [hMQ, hRR] at hdm
  rw [hRR] at hr0 hr1
  obtain ⟨V, hV⟩ : ∃ q, X - NW = q := ⟨_, rfl⟩
  obtain ⟨U, hU⟩ : ∃ q, NW - BF = q := ⟨_, rfl⟩
  have bV : -500000000 ≤ V ∧ V ≤ 500000000 := by omega
  have bU : -20000 ≤ U ∧ U ≤ 20000 := by omega
  have bW : -500000000 ≤ V + U ∧ V + U ≤ 500000000 := by omega
  have k1 := mul_abs (a := V) (x := V) (A := 500000000) (C := 500000000) bV.1 bV.2 bV.1 bV.2
  have k2 := mul_abs (a := U) (x := U) (A := 20000) (C := 20000) bU.1 bU.2 bU.1 bU.2
  have k3 := mul_abs (a := M) (x := g) (A := 10000) (C := 100) (by omega) bm.2 bg.1 bg.2
  have k4 := mul_abs (a := M * g) (x := V + U) (A := 1000000) (C := 500000000) (by omega) (by omega) bW.1 bW.2
  have k5 := mul_abs (a := P) (x := V + U) (A := 400000000) (C := 500000000) bp.1 bp.2 bW.1 bW.2
  have k6 := mul_abs (a := RR) (x := V + U) (A := 10000) (C := 500000000) (by omega) (by omega) bW.1 bW.2
  have k7 := mul_abs (a := M) (x := U) (A := 10000) (C := 20000) (by omega) bm.2 bU.1 bU.2
  have hVq : V = U + FQ - g := by omega
  have hMV : M * V = M * U + MQ - M * g := by rw [hVq, ← hMQ]; grind
  have bMV : -1000000000 ≤ M * V ∧ M * V ≤ 1000000000 := by omega
  have k8 := mul_abs (a := M * V) (x := V) (A := 1000000000) (C := 500000000) bMV.1 bMV.2 bV.1 bV.2
  have k9 := mul_abs (a := M * U) (x := U) (A := 200000000) (C := 20000) (by omega) (by omega) bU.1 bU.2
  have hK : M * (V * V - U * U) = M * V * V - M * U * U := by grind
  refine ⟨V, U, V + U, V * V, U * U, V * V - U * U, M * (V * V - U * U), P * (V + U), M * g, M * g * (V + U), FQ, MQ, RR, RR * (V + U), ⟨hV, hU, rfl, rfl, rfl, rfl, rfl, rfl, rfl, rfl, hFQ, hMQ, by omega, hRR, rfl, bV, bU, bW, by omega, by omega, ?_, by omega, by omega, by omega, hq, by omega, by omega, by omega, bm, bp, bg, by omega, bnw, bbf⟩⟩
  rw [hK]
  omega
theorem baF_at {fs : List Fl} {s : St} {g : Int} (ok : StOk fs s) (hg : -100 ≤ g ∧ g ≤ 100) (h1 : ∀ i : Nat, -10000 ≤ s.1[i]?.getD 0 ∧ s.1[i]?.getD 0 ≤ 10000) (h2 : ∀ i : Nat, -10000 ≤ s.2.1[i]?.getD 0 ∧ s.2.1[i]?.getD 0 ≤ 10000) {i : Nat} (hi : i < fs.length) :
    ∃ V U Wv VV UU DV KF SF MG GF FQ MQ RR RF, BaF (baM fs i) (baP fs s i) g (nxS fs s g i) (s.1[i]?.getD 0) (s.2.1[i]?.getD 0) V U Wv VV UU DV KF SF MG GF FQ MQ RR RF ∧ baK fs s g i = KF ∧ baS fs s g i = SF ∧ baG fs s g i = GF ∧ baR fs s g i = RF := by
  have hm := (flErr_ok ((frmE_ok ok.frm).2 i hi)).1
  have hp := psA_bd (F := frS fs s) (k := fs.length) (i := i) (M := 200000000) (fun j => ok.frS_bd j)
  obtain ⟨V, U, Wv, VV, UU, DV, KF, SF, MG, GF, FQ, MQ, RR, RF, h⟩ := baF_of (M := baM fs i) (P := baP fs s i) (g := g) (X := nxS fs s g i) hm (by unfold baP; omega) hg (h1 i) (h2 i) (by rw [nxS, baP, baM])
  refine ⟨V, U, Wv, VV, UU, DV, KF, SF, MG, GF, FQ, MQ, RR, RF, h, ?_, ?_, ?_, ?_⟩
  · rw [baK, baV, baU, h.v, h.u, h.vv, h.uu, h.dv, h.kf]
  · rw [baS, baV, baU, h.v, h.u, h.w, h.sf]
  · rw [baG, baV, baU, h.v, h.u, h.w, h.mg, h.gf]
  · rw [baR, baV, baU, h.v, h.u, h.w, h.rm, h.rf]
/-- The sums so far. -/
def balSt (fs : List Fl) (s : St) (g : Int) (k : Nat) : List Value := [.int .i64 (sumR (baK fs s g) k), .int .i64 (sumR (baS fs s g) k), .int .i64 (-sumR (baG fs s g) k), .int .i64 (sumR (baR fs s g) k)]
theorem bal_bd {fs : List Fl} {s : St} {g : Int} (ok : StOk fs s) (hg : -100 ≤ g ∧ g ≤ 100) (h1 : ∀ i : Nat, -10000 ≤ s.1[i]?.getD 0 ∧ s.1[i]?.getD 0 ≤ 10000) (h2 : ∀ i : Nat, -10000 ≤ s.2.1[i]?.getD 0 ∧ s.2.1[i]?.getD 0 ≤ 10000) {k : Nat} (hk : k ≤ fs.length) :
    (-3000000000000000000 ≤ sumR (baK fs s g) k ∧ sumR (baK fs s g) k ≤ 3000000000000000000) ∧ (-3000000000000000000 ≤ sumR (baS fs s g) k ∧ sumR (baS fs s g) k ≤ 3000000000000000000) ∧ (-3000000000000000000 ≤ sumR (baG fs s g) k ∧ sumR (baG fs s g) k ≤ 3000000000000000000) ∧ (-3000000000000000000 ≤ sumR (baR fs s g) k ∧ sumR (baR fs s g) k ≤ 3000000000000000000) := by
  have h5 := (frmE_ok ok.frm).1
  have hall : ∀ i, i < k → (-600000000000000000 ≤ baK fs s g i ∧ baK fs s g i ≤ 600000000000000000) ∧ (-600000000000000000 ≤ baS fs s g i ∧ baS fs s g i ≤ 600000000000000000) ∧ (-600000000000000000 ≤ baG fs s g i ∧ baG fs s g i ≤ 600000000000000000) ∧ (-600000000000000000 ≤ baR fs s g i ∧ baR fs s g i ≤ 600000000000000000) := fun i hi => by
    obtain ⟨V, U, Wv, VV, UU, DV, KF, SF, MG, GF, FQ, MQ, RR, RF, h, e1, e2, e3, e4⟩ := baF_at ok hg h1 h2 (show i < fs.length by omega)
    rw [e1, e2, e3, e4]
    have k1 := h.bkf
    have k2 := h.bsf
    have k3 := h.bgf
    have k4 := h.brf
    omega
  have c1 := sumR_abs (f := baK fs s g) (M := 600000000000000000) (n := k) (fun i hi => (hall i hi).1)
  have c2 := sumR_abs (f := baS fs s g) (M := 600000000000000000) (n := k) (fun i hi => (hall i hi).2.1)
  have c3 := sumR_abs (f := baG fs s g) (M := 600000000000000000) (n := k) (fun i hi => (hall i hi).2.2.1)
  have c4 := sumR_abs (f := baR fs s g) (M := 600000000000000000) (n := k) (fun i hi => (hall i hi).2.2.2)
  omega
end Go.Proofs.Ytaiikekgckjdeaa

namespace Go.Proofs.Ytaiikekgckjdeaa
theorem sqM_le {d y : Int} (h1 : -y ≤ d) (h2 : d ≤ y) : d * d ≤ y * y := by
  have h := Int.mul_nonneg (show 0 ≤ y - d by omega) (show 0 ≤ y + d by omega)
  have e : (y - d) * (y + d) = y * y - d * d := by grind
  omega
theorem sqM_ge {d y : Int} (hy : 0 ≤ y) (h : y ≤ d ∨ d ≤ -y) : y * y ≤ d * d := by
  rcases h with h | h
  · exact sqM_le (by omega) h
  · have := sqM_le (d := y) (y := -d) (by omega) (by omega)
    grind
/-- An element in a valid hold, before a move. -/
structure ElM (k y : Int) (b : Bool) (s : Int) (br : Bool) (at1 : Int) : Prop where
  k0 : 1 ≤ k
  y0 : 1 ≤ y
  br_ : br = true → b = true ∧ s = 0
  b_ : b = true → s = 0
  sz : br = false → -y ≤ at1 - s ∧ at1 - s ≤ y
/-- What a move does to an element that is not broken: three cases. -/
theorem mv_cases {k y s at1 at2 : Int} {b : Bool} (h : ElM k y b s false at1) :
    (-y ≤ at2 - s ∧ at2 - s ≤ y ∧ mvSlip y b s false at2 = s ∧ mvBr y b s false at2 = false ∧ mvWork k y b s false at1 at2 = k * ((at2 - s) * (at2 - s)) - k * (at1 - s) * (at1 - s) ∧ mvLoss k y b s false at2 = 0) ∨
    ((y < at2 - s ∨ at2 - s < -y) ∧ b = true ∧ mvSlip y b s false at2 = 0 ∧ mvBr y b s false at2 = true ∧ mvWork k y b s false at1 at2 = k * (y * y) - k * (at1 - s) * (at1 - s) ∧ mvLoss k y b s false at2 = k * y * y) ∨
    (y < at2 - s ∧ b = false ∧ mvSlip y b s false at2 = at2 - y ∧ mvBr y b s false at2 = false ∧ mvWork k y b s false at1 at2 = k * (y * y) - k * (at1 - s) * (at1 - s) + 2 * k * y * (at2 - s - y) ∧ mvLoss k y b s false at2 = 2 * k * y * (at2 - s - y)) ∨
    (at2 - s < -y ∧ b = false ∧ mvSlip y b s false at2 = at2 + y ∧ mvBr y b s false at2 = false ∧ mvWork k y b s false at1 at2 = k * (y * y) - k * (at1 - s) * (at1 - s) + 2 * k * y * (-(at2 - s) - y) ∧ mvLoss k y b s false at2 = 2 * k * y * (-(at2 - s) - y)) := by
  have hy := h.y0
  rcases ovr_cases y (at2 - s) (by omega) with ⟨h0, h1, h2⟩ | ⟨h1, h0⟩ | ⟨h1, h0⟩
  · left
    have h3 := sqM_le h1 h2
    refine ⟨h1, h2, by simp [mvSlip, h0], by simp [mvBr, h0], ?_, by simp [mvLoss, h0]⟩
    rw [mvWork, Int.min_eq_left h3, h0]
    simp
  · have h3 := sqM_ge (d := at2 - s) (y := y) (by omega) (.inl (by omega))
    have hn : ¬ (at2 - s - y = 0) := by omega
    have hn2 : ¬ (at2 - s < 0) := by omega
    right
    cases b
    · right; left
      refine ⟨h1, rfl, ?_, by simp [mvBr], ?_, ?_⟩
      · simp [mvSlip, h0, hn, hn2]; omega
      · rw [mvWork, Int.min_eq_right h3, h0]; simp
      · simp [mvLoss, h0, hn]
    · left
      refine ⟨.inl h1, rfl, by simp [mvSlip, h0, hn], by simp [mvBr, h0, hn], ?_, by simp [mvLoss, h0, hn]⟩
      rw [mvWork, Int.min_eq_right h3]; simp
  · have h3 := sqM_ge (d := at2 - s) (y := y) (by omega) (.inr (by omega))
    have hn : ¬ (-(at2 - s) - y = 0) := by omega
    have hn2 : at2 - s < 0 := by omega
    right
    cases b
    · right; right
      refine ⟨h1, rfl, ?_, by simp [mvBr], ?_, ?_⟩
      · simp only [mvSlip, h0, hn, hn2]; simp; omega
      · rw [mvWork, Int.min_eq_right h3, h0]; simp
      · simp only [mvLoss, h0, hn]; simp
    · left
      refine ⟨.inr h1, rfl, by simp only [mvSlip, h0, hn]; simp, by simp only [mvBr, h0, hn]; simp, ?_, by simp only [mvLoss, h0, hn]; simp⟩
      rw [mvWork, Int.min_eq_right h3]; simp
theorem mv_broken {k y s at1 at2 : Int} {b : Bool} : mvSlip y b s true at2 = s ∧ mvBr y b s true at2 = true ∧ mvWork k y b s true at1 at2 = 0 ∧ mvLoss k y b s true at2 = 0 := by
  simp [mvSlip, mvBr, mvWork, mvLoss]
/-- Work is the change of the energy plus the loss. -/
theorem mv_energy {k y s at1 at2 : Int} {b br : Bool} (h : ElM k y b s br at1) :
    mvWork k y b s br at1 at2 = enrE k (mvSlip y b s br at2) (mvBr y b s br at2) at2 - enrE k s br at1 + mvLoss k y b s br at2 := by
  cases br
  · rcases mv_cases (at2 := at2) h with ⟨-, -, h1, h2, h3, h4⟩ | ⟨-, -, h1, h2, h3, h4⟩ | ⟨-, -, h1, h2, h3, h4⟩ | ⟨-, -, h1, h2, h3, h4⟩ <;> rw [h1, h2, h3, h4] <;> simp only [enrE, wgt] <;> simp <;> grind
  · obtain ⟨h1, h2, h3, h4⟩ := mv_broken (k := k) (y := y) (s := s) (at1 := at1) (at2 := at2) (b := b)
    rw [h1, h2, h3, h4]
    simp [enrE, wgt]
theorem mv_loss {k y s at1 at2 : Int} {b br : Bool} (h : ElM k y b s br at1) : 0 ≤ mvLoss k y b s br at2 := by
  have hk := h.k0
  have hy := h.y0
  have h5 : 0 ≤ k * y := Int.mul_nonneg (by omega) (by omega)
  have h6 : 0 ≤ 2 * k * y := by rw [Int.mul_assoc]; omega
  cases br
  · rcases mv_cases (at2 := at2) h with ⟨-, -, h1, h2, h3, h4⟩ | ⟨-, -, h1, h2, h3, h4⟩ | ⟨h0, -, h1, h2, h3, h4⟩ | ⟨h0, -, h1, h2, h3, h4⟩ <;> rw [h4]
    · exact Int.le_refl _
    · exact Int.mul_nonneg h5 (by omega)
    · exact Int.mul_nonneg h6 (by omega)
    · exact Int.mul_nonneg h6 (by omega)
  · rw [(mv_broken (k := k) (y := y) (s := s) (at1 := at1) (at2 := at2) (b := b)).2.2.2]
    exact Int.le_refl _
/-- By way of a position in between. -/
theorem mv_between {k y s at1 half at2 : Int} {b br : Bool} (h : ElM k y b s br at1) (hb : (at1 ≤ half ∧ half ≤ at2) ∨ (at2 ≤ half ∧ half ≤ at1)) :
    mvSlip y b (mvSlip y b s br half) (mvBr y b s br half) at2 = mvSlip y b s br at2 ∧ mvBr y b (mvSlip y b s br half) (mvBr y b s br half) at2 = mvBr y b s br at2 ∧
    mvWork k y b s br at1 half + mvWork k y b (mvSlip y b s br half) (mvBr y b s br half) half at2 = mvWork k y b s br at1 at2 ∧
    mvLoss k y b s br half + mvLoss k y b (mvSlip y b s br half) (mvBr y b s br half) at2 = mvLoss k y b s br at2 := by
  have hk := h.k0
  have hy := h.y0
  cases br
  · have hsz := h.sz rfl
    rcases mv_cases (at2 := half) h with ⟨a1, a2, h1, h2, h3, h4⟩ | ⟨a1, a2, h1, h2, h3, h4⟩ | ⟨a1, a2, h1, h2, h3, h4⟩ | ⟨a1, a2, h1, h2, h3, h4⟩
    · rw [h1, h2, h3, h4]
      have hh : ElM k y b s false half := ⟨hk, hy, (fun e => by cases e), h.b_, fun _ => ⟨a1, a2⟩⟩
      rcases mv_cases (at2 := at2) hh with ⟨-, -, g1, g2, g3, g4⟩ | ⟨-, -, g1, g2, g3, g4⟩ | ⟨-, -, g1, g2, g3, g4⟩ | ⟨-, -, g1, g2, g3, g4⟩ <;>
        rcases mv_cases (at2 := at2) h with ⟨-, -, f1, f2, f3, f4⟩ | ⟨-, -, f1, f2, f3, f4⟩ | ⟨-, -, f1, f2, f3, f4⟩ | ⟨-, -, f1, f2, f3, f4⟩ <;> first | omega | (refine ⟨rfl, rfl, ?_, ?_⟩ <;> grind)
    · rw [h1, h2, h3, h4]
      obtain ⟨g1, g2, g3, g4⟩ := mv_broken (k := k) (y := y) (s := 0) (at1 := half) (at2 := at2) (b := b)
      rw [g1, g2, g3, g4]
      rcases mv_cases (at2 := at2) h with ⟨_, _, f1, f2, f3, f4⟩ | ⟨_, _, f1, f2, f3, f4⟩ | ⟨_, b2, f1, f2, f3, f4⟩ | ⟨_, b2, f1, f2, f3, f4⟩
      · omega
      · rw [f1, f2, f3, f4]
        simp
      · rw [a2] at b2; cases b2
      · rw [a2] at b2; cases b2
    · rw [h1, h2, h3, h4]
      have hh : ElM k y b (half - y) false half := ⟨hk, hy, (fun e => by cases e), (fun e => by rw [a2] at e; cases e), fun _ => by omega⟩
      rcases mv_cases (at2 := at2) h with ⟨_, _, f1, f2, f3, f4⟩ | ⟨_, b2, f1, f2, f3, f4⟩ | ⟨_, b2, f1, f2, f3, f4⟩ | ⟨_, b2, f1, f2, f3, f4⟩
      · omega
      · rw [a2] at b2; cases b2
      · rw [f1, f2, f3, f4]
        rcases mv_cases (at2 := at2) hh with ⟨c1, c2, g1, g2, g3, g4⟩ | ⟨_, b3, g1, g2, g3, g4⟩ | ⟨_, b3, g1, g2, g3, g4⟩ | ⟨_, b3, g1, g2, g3, g4⟩
        · obtain rfl : at2 = half := by omega
          rw [g1, g2, g3, g4]
          refine ⟨rfl, rfl, ?_, ?_⟩ <;> grind
        · rw [a2] at b3; cases b3
        · rw [g1, g2, g3, g4]
          refine ⟨rfl, rfl, ?_, ?_⟩ <;> grind
        · omega
      · omega
    · rw [h1, h2, h3, h4]
      have hh : ElM k y b (half + y) false half := ⟨hk, hy, (fun e => by cases e), (fun e => by rw [a2] at e; cases e), fun _ => by omega⟩
      rcases mv_cases (at2 := at2) h with ⟨_, _, f1, f2, f3, f4⟩ | ⟨_, b2, f1, f2, f3, f4⟩ | ⟨_, b2, f1, f2, f3, f4⟩ | ⟨_, b2, f1, f2, f3, f4⟩
      · omega
      · rw [a2] at b2; cases b2
      · omega
      · rw [f1, f2, f3, f4]
        rcases mv_cases (at2 := at2) hh with ⟨c1, c2, g1, g2, g3, g4⟩ | ⟨_, b3, g1, g2, g3, g4⟩ | ⟨_, b3, g1, g2, g3, g4⟩ | ⟨_, b3, g1, g2, g3, g4⟩
        · obtain rfl : at2 = half := by omega
          rw [g1, g2, g3, g4]
          refine ⟨rfl, rfl, ?_, ?_⟩ <;> grind
        · rw [a2] at b3; cases b3
        · omega
        · rw [g1, g2, g3, g4]
          refine ⟨rfl, rfl, ?_, ?_⟩ <;> grind
  · obtain ⟨h1, h2, h3, h4⟩ := mv_broken (k := k) (y := y) (s := s) (at1 := at1) (at2 := half) (b := b)
    obtain ⟨g1, g2, g3, g4⟩ := mv_broken (k := k) (y := y) (s := s) (at1 := at1) (at2 := at2) (b := b)
    obtain ⟨f1, f2, f3, f4⟩ := mv_broken (k := k) (y := y) (s := s) (at1 := half) (at2 := at2) (b := b)
    rw [h1, h2, f1, f2, f3, f4, h3, h4, g3]
    simp
/-- Without slip and cracks the way back has the opposite work. -/
theorem mv_back {k y s at1 at2 : Int} {b br : Bool} (h : ElM k y b s br at1) (h0 : mvLoss k y b s br at2 = 0) :
    mvWork k y b (mvSlip y b s br at2) (mvBr y b s br at2) at2 at1 = -mvWork k y b s br at1 at2 ∧ mvLoss k y b (mvSlip y b s br at2) (mvBr y b s br at2) at1 = 0 := by
  have hk := h.k0
  have hy := h.y0
  have h5 : 0 < k * y := Int.mul_pos (by omega) (by omega)
  cases br
  · rcases mv_cases (at2 := at2) h with ⟨c1, c2, h1, h2, h3, h4⟩ | ⟨_, _, h1, h2, h3, h4⟩ | ⟨c1, _, h1, h2, h3, h4⟩ | ⟨c1, _, h1, h2, h3, h4⟩
    · rw [h1, h2, h3]
      have hh : ElM k y b s false at2 := ⟨hk, hy, (fun e => by cases e), h.b_, fun _ => ⟨c1, c2⟩⟩
      have hsz := h.sz rfl
      rcases mv_cases (at2 := at1) hh with ⟨-, -, g1, g2, g3, g4⟩ | ⟨c3, -, g1, g2, g3, g4⟩ | ⟨c3, -, g1, g2, g3, g4⟩ | ⟨c3, -, g1, g2, g3, g4⟩
      · refine ⟨?_, g4⟩
        rw [g3]
        grind
      · omega
      · omega
      · omega
    · rw [h4] at h0
      have := Int.mul_pos h5 (show 0 < y by omega)
      omega
    · rw [h4] at h0
      have := Int.mul_pos h5 (show 0 < at2 - s - y by omega)
      rw [Int.mul_assoc, Int.mul_assoc] at h0
      rw [Int.mul_assoc] at this
      omega
    · rw [h4] at h0
      have := Int.mul_pos h5 (show 0 < -(at2 - s) - y by omega)
      rw [Int.mul_assoc, Int.mul_assoc] at h0
      rw [Int.mul_assoc] at this
      omega
  · obtain ⟨h1, h2, h3, h4⟩ := mv_broken (k := k) (y := y) (s := s) (at1 := at1) (at2 := at2) (b := b)
    obtain ⟨g1, g2, g3, g4⟩ := mv_broken (k := k) (y := y) (s := s) (at1 := at2) (at2 := at1) (b := b)
    rw [h1, h2, h3, g3, g4]
    simp
theorem sumR_congr {f g : Nat → Int} {n : Nat} (h : ∀ i, i < n → f i = g i) : sumR f n = sumR g n := by
  induction n with
  | zero => rfl
  | succ n ih => rw [sumR, sumR, ih (fun i hi => h i (by omega)), h n (by omega)]
theorem sumR_add (f g : Nat → Int) (n : Nat) : sumR (fun i => f i + g i) n = sumR f n + sumR g n := by
  induction n with
  | zero => rfl
  | succ n ih =>
    rw [sumR, sumR, sumR, ih]
    omega
theorem sumR_sub (f g : Nat → Int) (n : Nat) : sumR (fun i => f i - g i) n = sumR f n - sumR g n := by
  induction n with
  | zero => rfl
  | succ n ih =>
    rw [sumR, sumR, sumR, ih]
    omega
theorem sumR_neg (f : Nat → Int) (n : Nat) : sumR (fun i => -f i) n = -sumR f n := by
  induction n with
  | zero => rfl
  | succ n ih =>
    rw [sumR, sumR, ih]
    omega
theorem sumR_nn {f : Nat → Int} {n : Nat} (h : ∀ i, i < n → 0 ≤ f i) : 0 ≤ sumR f n := by
  induction n with
  | zero => exact Int.le_refl _
  | succ n ih =>
    have h1 := ih (fun i hi => h i (by omega))
    have h2 := h n (by omega)
    rw [sumR]
    omega
theorem sumR_nil {f : Nat → Int} {n : Nat} (h : ∀ i, i < n → 0 ≤ f i) (h0 : sumR f n = 0) : ∀ i, i < n → f i = 0 := by
  induction n with
  | zero => intro i hi; omega
  | succ n ih =>
    have h1 := sumR_nn (fun i (hi : i < n) => h i (by omega))
    have h2 := h n (by omega)
    rw [sumR] at h0
    intro i hi
    by_cases e : i = n
    · subst e
      omega
    · exact ih (fun i hi => h i (by omega)) (by omega) i (by omega)
theorem HoldOk.elM {l : List El} {at1 : Int} {sl : List Sp} (h : HoldOk l at1 sl) {i : Nat} (hi : i < l.length) : ElM (l[i]?.getD el0).1 (l[i]?.getD el0).2.1 (l[i]?.getD el0).2.2 (sl[i]?.getD sp0).1 (sl[i]?.getD sp0).2 at1 := by
  obtain ⟨-, h1, h2, h3⟩ := slE_ok (h.sl i hi)
  have he := elErr_ok (h.el i hi)
  refine ⟨by omega, by omega, h1, h2, fun hb => ?_⟩
  rcases h3 with h3 | h3
  · rw [hb] at h3
    cases h3
  · exact szd_iff.1 h3
theorem wrk_energy {l : List El} {at1 at2 : Int} {sl : List Sp} (h : HoldOk l at1 sl) : wrkS l sl at1 at2 = enrS l at2 (mvdS l sl at2) - enrS l at1 sl + losS l sl at2 := by
  unfold wrkS enrS losS
  rw [← sumR_sub, ← sumR_add]
  refine sumR_congr fun i hi => ?_
  rw [mvdS_get l sl at2 hi]
  exact mv_energy (h.elM hi)
theorem los_nn {l : List El} {at1 at2 : Int} {sl : List Sp} (h : HoldOk l at1 sl) : 0 ≤ losS l sl at2 := sumR_nn fun _ hi => mv_loss (h.elM hi)
theorem mvdS_get2 (l : List El) (sl : List Sp) (at2 : Int) {i : Nat} (hi : i < l.length) : (mvdS l sl at2)[i]? = some (mvRow l sl at2 i) := by simp [mvdS, hi]
theorem mvd_between {l : List El} {at1 half at2 : Int} {sl : List Sp} (h : HoldOk l at1 sl) (hb : (at1 ≤ half ∧ half ≤ at2) ∨ (at2 ≤ half ∧ half ≤ at1)) :
    mvdS l (mvdS l sl half) at2 = mvdS l sl at2 ∧ wrkS l sl at1 half + wrkS l (mvdS l sl half) half at2 = wrkS l sl at1 at2 ∧ losS l sl half + losS l (mvdS l sl half) at2 = losS l sl at2 := by
  refine ⟨?_, ?_, ?_⟩
  · unfold mvdS
    refine List.map_congr_left fun i hi => ?_
    have hi' : i < l.length := by simpa using hi
    obtain ⟨h1, h2, -, -⟩ := mv_between (h.elM hi') hb
    have e : ((List.range l.length).map (mvRow l sl half))[i]?.getD sp0 = mvRow l sl half i := mvdS_get l sl half hi'
    unfold mvRow at e ⊢
    rw [e]
    exact Prod.ext h1 h2
  · unfold wrkS
    rw [← sumR_add]
    refine sumR_congr fun i hi => ?_
    unfold mvW
    rw [mvdS_get l sl half hi]
    exact (mv_between (h.elM hi) hb).2.2.1
  · unfold losS
    rw [← sumR_add]
    refine sumR_congr fun i hi => ?_
    unfold mvL
    rw [mvdS_get l sl half hi]
    exact (mv_between (h.elM hi) hb).2.2.2
theorem mvd_back {l : List El} {at1 at2 : Int} {sl : List Sp} (h : HoldOk l at1 sl) (h0 : losS l sl at2 = 0) : wrkS l (mvdS l sl at2) at2 at1 = -wrkS l sl at1 at2 ∧ losS l (mvdS l sl at2) at1 = 0 := by
  have hz := sumR_nil (fun i hi => mv_loss (at2 := at2) (h.elM hi)) h0
  constructor
  · unfold wrkS
    rw [← sumR_neg]
    refine sumR_congr fun i hi => ?_
    unfold mvW
    rw [mvdS_get l sl at2 hi]
    exact (mv_back (h.elM hi) (hz i hi)).1
  · unfold losS
    rw [show (0 : Int) = sumR (fun _ => 0) l.length from by
      generalize l.length = n
      induction n with
      | zero => rfl
      | succ n ih => rw [sumR, ← ih]; rfl]
    refine sumR_congr fun i hi => ?_
    unfold mvL
    rw [mvdS_get l sl at2 hi]
    exact (mv_back (h.elM hi) (hz i hi)).2
theorem mvd_broken {l : List El} {at2 : Int} {sl : List Sp} {i : Nat} (hi : i < l.length) (h : (sl[i]?.getD sp0).2 = true) : ((mvdS l sl at2)[i]?.getD sp0).2 = true := by
  rw [mvdS_get l sl at2 hi]
  simp [mvRow, mvBr, h]
theorem half_in {a b t : Int} (h0 : 0 ≤ t) (h1 : t ≤ 100) : (a ≤ a + ((b - a) * t).tdiv 100 ∧ a + ((b - a) * t).tdiv 100 ≤ b) ∨ (b ≤ a + ((b - a) * t).tdiv 100 ∧ a + ((b - a) * t).tdiv 100 ≤ a) := by
  rcases Int.le_total a b with h | h
  · left
    have h2 : 0 ≤ (b - a) * t := Int.mul_nonneg (by omega) h0
    have h3 : (b - a) * t ≤ (b - a) * 100 := Int.mul_le_mul_of_nonneg_left h1 (by omega)
    rw [Int.tdiv_eq_ediv_of_nonneg h2]
    omega
  · right
    have h2 : 0 ≤ (a - b) * t := Int.mul_nonneg (by omega) h0
    have h3 : (a - b) * t ≤ (a - b) * 100 := Int.mul_le_mul_of_nonneg_left h1 (by omega)
    have h4 : (b - a) * t = -((a - b) * t) := by grind
    rw [h4, Int.neg_tdiv, Int.tdiv_eq_ediv_of_nonneg h2]
    omega
end Go.Proofs.Ytaiikekgckjdeaa

namespace Go.Proofs.Ytaiikekgckjdeaa
open Go.RowKit
open Calmly (Kept)
theorem eaF_nil {err : Nat → Int} : ∀ {k m : Nat}, (∀ j, k ≤ j → j < k + m → err j = 0) → eaF err k m = (0, 0)
  | _, 0, _ => rfl
  | k, m + 1, h => by
    rw [eaF, if_pos (h k (by omega) (by omega))]
    exact eaF_nil (fun j h1 h2 => h j (by omega) (by omega))
theorem HoldOk.spr {l : List El} {at1 : Int} {sl : List Sp} (h : HoldOk l at1 sl) : (sprE l).2 = 0 := by
  have h1 := h.len
  have h2 : sprH l.length = 0 := by
    have e1 : decide (0 < l.length) = true := by simpa using h1.1
    have e2 : decide ((l.length : Int) ≤ 4) = true := by simp; omega
    rw [sprH, e1, e2]
    rfl
  rw [sprE, if_pos h2, eaF_nil (fun j _ hj => h.el j (by omega))]
theorem HoldOk.hld {l : List El} {at1 : Int} {sl : List Sp} (h : HoldOk l at1 sl) : (hldE l at1 sl).2 = 0 := by
  have h2 : hldH at1 sl.length l.length = 0 := by
    have e2 : decide (sl.length = l.length) = true := by simpa using h.same
    rw [hldH, h.at_]
    simp [h.same, firstE, unlessE]
  rw [hldE, if_pos h2, eaF_nil (fun j _ hj => h.sl j (by have := h.same; omega))]
theorem HoldOk.chk {l : List El} {at1 : Int} {sl : List Sp} (h : HoldOk l at1 sl) : (chkE l at1 sl).2 = 0 := by
  rw [chkE, if_pos h.spr]
  exact h.hld
theorem HoldOk.opn {l : List El} {at1 at2 : Int} {sl : List Sp} (h : HoldOk l at1 sl) (h2 : plc at2 = true) : opnE l at1 sl at2 = 0 := by
  rw [opnE, first_ok h.chk, h2]
  rfl
theorem Energy_ok (a a2 : Option Addr) (n c n2 c2 : Nat) (l : List El) (at1 : Int) (sl : List Sp) (w : World) (h1 : SEl w a n c l) (h2 : SSp w a2 n2 c2 sl) (h : HoldOk l at1 sl) :
    Calls Try.prog 27 #[.slice a n c, .agg #[.int .i64 at1, .slice a2 n2 c2]] w fun e w' => e = .returned (.tuple #[.int .i64 (enrS l at1 sl), .int .i64 0]) ∧ Below w.heap.size w w' := by
  have h5 := EnergyOf_any a a2 n c n2 c2 l at1 sl w h1 h2
  rw [if_pos h.chk, h.chk] at h5
  exact h5
theorem MovedTo_ok (a a2 : Option Addr) (n c c2 : Nat) (l : List El) (at1 at2 : Int) (sl : List Sp) (w : World) (h1 : SEl w a n c l) (h2 : SSp w a2 n c2 sl) (h : HoldOk l at1 sl) (hp : plc at2 = true) :
    Calls Try.prog 30 #[.slice a n c, .agg #[.int .i64 at1, .slice a2 n c2], .int .i64 at2] w fun e w' => ∃ av cv, e = .returned (.tuple #[.agg #[.int .i64 at2, .slice av n cv], .int .i64 0]) ∧ OwS w' w.heap.size av n cv (mvdS l sl at2) ∧ Below w.heap.size w w' := by
  have h5 := MovedTo_any a a2 n c n c2 l at1 at2 sl w h1 h2
  rw [if_pos (h.opn hp), if_pos (h.opn hp), h.opn hp] at h5
  refine h5.mono ?_
  rintro e w' ⟨av, nv, cv, rfl, ho, hb⟩
  have e5 : nv = n := by rw [ho.ss.len, mvdS_len, h1.len]
  subst e5
  exact ⟨av, cv, rfl, ho, hb⟩
theorem WorkTo_ok (a a2 : Option Addr) (n c n2 c2 : Nat) (l : List El) (at1 at2 : Int) (sl : List Sp) (w : World) (h1 : SEl w a n c l) (h2 : SSp w a2 n2 c2 sl) (h : HoldOk l at1 sl) (hp : plc at2 = true) :
    Calls Try.prog 31 #[.slice a n c, .agg #[.int .i64 at1, .slice a2 n2 c2], .int .i64 at2] w fun e w' => e = .returned (.tuple #[.agg #[.int .i64 (wrkS l sl at1 at2), .int .i64 (losS l sl at2)], .int .i64 0]) ∧ Below w.heap.size w w' := by
  have h5 := WorkTo_any a a2 n c n2 c2 l at1 at2 sl w h1 h2
  rw [if_pos (h.opn hp), if_pos (h.opn hp), h.opn hp] at h5
  exact h5
theorem rHoldErr_ok (a a2 : Option Addr) (n c n2 c2 : Nat) (l : List El) (at' : Int) (sl : List Sp) (w : World) (h1 : SEl w a n c l) (h2 : SSp w a2 n2 c2 sl) (h : HoldOk l at' sl) :
    Calls Try.prog 32 #[.slice a n c, .agg #[.int .i64 at', .slice a2 n2 c2]] w fun e w' => e = .returned (.int .i64 0) ∧ Below w.heap.size w w' := by
  have h5 := rHoldErr_any a a2 n c n2 c2 l at' sl w h1 h2 (fun j hj => h.el j (by rw [← h1.len]; exact hj))
  rw [h.hld] at h5
  exact h5
/-- A box with a hold, a box with works. -/
structure HbW (W : World) (n q : Nat) (x : Int) (sl : List Sp) : Prop where
  ex : ∃ av cv, W.heap[q]? = some (.cells #[.int .i64 x, .slice av n cv] 49) ∧ SSp W av n cv sl ∧ In W 64 av
theorem HbW.keep {W W' : World} {n q : Nat} {x : Int} {sl : List Sp} (h : HbW W n q x sl) (hb : Below W.heap.size W W') : HbW W' n q x sl := by
  obtain ⟨av, cv, h1, h2, h3⟩ := h
  exact ⟨av, cv, blk_keep h1 hb, h2.keep hb, h3.keep hb⟩
structure WbW (W : World) (q : Nat) (x y : Int) : Prop where
  blk : W.heap[q]? = some (.cells #[.int .i64 x, .int .i64 y] 59)
theorem WbW.keep {W W' : World} {q : Nat} {x y : Int} (h : WbW W q x y) (hb : Below W.heap.size W W') : WbW W' q x y := ⟨blk_keep h.blk hb⟩
theorem enrS_bd {l : List El} {at1 : Int} {sl : List Sp} (h : HoldOk l at1 sl) : -10000000000000 ≤ enrS l at1 sl ∧ enrS l at1 sl ≤ 10000000000000 := by
  have h1 := sumR_abs (f := fun i => enrE (l[i]?.getD el0).1 (sl[i]?.getD sp0).1 (sl[i]?.getD sp0).2 at1) (M := 2500000000000) (n := l.length) (fun i hi => enr_bd (h.elB h.at_ hi))
  have h2 := h.len
  unfold enrS
  omega
theorem wrkS_bd {l : List El} {at1 at2 : Int} {sl : List Sp} (h : HoldOk l at1 sl) (h2 : plc at2 = true) : -12000000000000 ≤ wrkS l sl at1 at2 ∧ wrkS l sl at1 at2 ≤ 12000000000000 := by
  have h1 := sumR_abs (f := mvW l sl at1 at2) (M := 3000000000000) (n := l.length) (fun i hi => by have := mvWork_bd (b := (l[i]?.getD el0).2.2) (br := (sl[i]?.getD sp0).2) (h.elB h.at_ hi) (h.elB h2 hi); exact ⟨this.1, this.2.1⟩)
  have h3 := h.len
  unfold wrkS
  omega
theorem losS_bd {l : List El} {at1 at2 : Int} {sl : List Sp} (h : HoldOk l at1 sl) (h2 : plc at2 = true) : -400000000000 ≤ losS l sl at2 ∧ losS l sl at2 ≤ 400000000000 := by
  have h1 := sumR_abs (f := mvL l sl at2) (M := 100000000000) (n := l.length) (fun i hi => by have := mvWork_bd (b := (l[i]?.getD el0).2.2) (br := (sl[i]?.getD sp0).2) (h.elB h.at_ hi) (h.elB h2 hi); exact ⟨Int.le_trans (by decide) this.2.2.1, this.2.2.2⟩)
  have h3 := h.len
  unfold losS
  omega
theorem tdiv_bd {P M : Int} (h1 : -M ≤ P) (h2 : P ≤ M) : -M ≤ P.tdiv 100 ∧ P.tdiv 100 ≤ M := by
  rcases Int.le_total 0 P with h | h
  · rw [Int.tdiv_eq_ediv_of_nonneg h]
    omega
  · obtain ⟨Q, rfl⟩ : ∃ Q, P = -Q := ⟨-P, by omega⟩
    rw [Int.neg_tdiv, Int.tdiv_eq_ediv_of_nonneg (by omega)]
    omega
/-- All that is to be known of a move by way of a position in between. -/
structure WkF (x z T H EN1 EN2 WK LS W3 L3 W4 L4 WB LB : Int) : Prop where
  bd : ((-10000000000000 ≤ EN1 ∧ EN1 ≤ 10000000000000) ∧ (-10000000000000 ≤ EN2 ∧ EN2 ≤ 10000000000000)) ∧ ((-12000000000000 ≤ WK ∧ WK ≤ 12000000000000) ∧ (0 ≤ LS ∧ LS ≤ 400000000000)) ∧ ((-12000000000000 ≤ W3 ∧ W3 ≤ 12000000000000) ∧ (-400000000000 ≤ L3 ∧ L3 ≤ 400000000000)) ∧ ((-12000000000000 ≤ W4 ∧ W4 ≤ 12000000000000) ∧ (-400000000000 ≤ L4 ∧ L4 ≤ 400000000000))
  en : WK = EN2 - EN1 + LS
  half : H = x + ((z - x) * T).tdiv 100
  add : W3 + W4 = WK ∧ L3 + L4 = LS
  back : LS = 0 → WB = -WK ∧ LB = 0
theorem wkF_of {l : List El} {x z T : Int} {sl : List Sp} (h : HoldOk l x sl) (hz : plc z = true) (h0 : 0 ≤ T) (h1 : T ≤ 100) :
    ∃ H sl2 sl3 EN1 EN2 WK LS W3 L3 W4 L4 WB LB, WkF x z T H EN1 EN2 WK LS W3 L3 W4 L4 WB LB ∧ plc H = true ∧ HoldOk l z sl2 ∧ HoldOk l H sl3 ∧ mvdS l sl z = sl2 ∧ mvdS l sl H = sl3 ∧ mvdS l sl3 z = sl2 ∧ enrS l x sl = EN1 ∧ enrS l z sl2 = EN2 ∧ wrkS l sl x z = WK ∧ losS l sl z = LS ∧ wrkS l sl x H = W3 ∧ losS l sl H = L3 ∧ wrkS l sl3 H z = W4 ∧ losS l sl3 z = L4 ∧ wrkS l sl2 z x = WB ∧ losS l sl2 x = LB ∧ ∀ i, i < l.length → (sl[i]?.getD sp0).2 = true → (sl2[i]?.getD sp0).2 = true := by
  have hin := half_in (a := x) (b := z) h0 h1
  have bx := plc_ok h.at_
  have bz := plc_ok hz
  have hH : plc (x + ((z - x) * T).tdiv 100) = true := plc_iff.2 (by omega)
  have k2 := mvd_ok h hz
  have k3 := mvd_ok h hH
  obtain ⟨b1, b2, b3⟩ := mvd_between h hin
  have hwe := wrk_energy (at2 := z) h
  have hl0 := los_nn (at2 := z) h
  have c1 := losS_bd h hz
  refine ⟨x + ((z - x) * T).tdiv 100, mvdS l sl z, mvdS l sl (x + ((z - x) * T).tdiv 100), _, _, _, _, _, _, _, _, _, _, ⟨⟨⟨enrS_bd h, enrS_bd k2⟩, ⟨wrkS_bd h hz, ⟨hl0, c1.2⟩⟩, ⟨wrkS_bd h hH, losS_bd h hH⟩, ⟨wrkS_bd k3 hz, losS_bd k3 hz⟩⟩, hwe, rfl, ⟨b2, b3⟩, fun e => mvd_back h e⟩, hH, k2, k3, rfl, rfl, b1, rfl, rfl, rfl, rfl, rfl, rfl, rfl, rfl, rfl, rfl, fun i hi hb => mvd_broken hi hb⟩
end Go.Proofs.Ytaiikekgckjdeaa

namespace Go.Proofs.Ytaiikekgckjdeaa
open Go.RowKit
open Calmly (Kept)
set_option maxRecDepth 100000 in
set_option maxHeartbeats 2000000 in
theorem rSameState_any (a1 a2 a3 b1 b2 b3 : Option Addr) (n1 c1 n2 c2 n3 c3 m1 d1 m2 d2 m3 d3 : Nat) (s t : St) (w : World) (h1 : StV w ((a1, n1, c1), (a2, n2, c2), (a3, n3, c3)) s) (h2 : StV w ((b1, m1, d1), (b2, m2, d2), (b3, m3, d3)) t) :
    Calls Try.prog 62 #[.agg #[.slice a1 n1 c1, .slice a2 n2 c2, .slice a3 n3 c3], .agg #[.slice b1 m1 d1, .slice b2 m2 d2, .slice b3 m3 d3]] w fun e w' => e = .returned (.bool (decide (s = t))) ∧ Below w.heap.size w w' := by
  obtain ⟨s1, s2, s3⟩ := s
  obtain ⟨t1, t2, t3⟩ := t
  obtain ⟨raw, hH⟩ := h1.hol
  obtain ⟨raw', hH'⟩ := h2.hol
  have i1 := h1.now
  have i2 := h1.bef
  have j1 := h2.now
  have j2 := h2.bef
  dsimp only at hH hH' i1 i2 j1 j2
  have hl3 : n3 = s3.length := by rw [hH.row.len, hH.len]
  have hk3 : m3 = t3.length := by rw [hH'.row.len, hH'.len]
  have HL3 := Lib.hid hl3
  have HK3 := Lib.hid hk3
  have x1 := hH.row.max
  have x2 := hH.row.cap
  have x3 := hH'.row.max
  have x4 := hH'.row.cap
  clear h1 h2 hl3 hk3
  obtain ⟨R, hR⟩ : ∃ R, decide (((s1, s2, s3) : St) = (t1, t2, t3)) = R := ⟨_, rfl⟩
  rw [hR]
  have HR := Lib.hid hR
  clear hR
  have y2 := blk_keep (alloc_new w (.cells #[.slice a1 n1 c1, .slice a2 n2 c2, .slice a3 n3 c3] 97)) ((Below.refl _ _).alloc (Nat.le_refl _) (.cells #[.slice b1 m1 d1, .slice b2 m2 d2, .slice b3 m3 d3] 97))
  have y3 := alloc_new (w.alloc (.cells #[.slice a1 n1 c1, .slice a2 n2 c2, .slice a3 n3 c3] 97)) (.cells #[.slice b1 m1 d1, .slice b2 m2 d2, .slice b3 m3 d3] 97)
  have BW : Below w.heap.size w ((w.alloc (.cells #[.slice a1 n1 c1, .slice a2 n2 c2, .slice a3 n3 c3] 97)).alloc (.cells #[.slice b1 m1 d1, .slice b2 m2 d2, .slice b3 m3 d3] 97)) := ((Below.refl _ _).alloc (Nat.le_refl _) _).alloc (by simp) _
  simp only [World.size_alloc] at y3
  have f0 := cell_block y2 0
  have g0 := cell_block y3 0
  go_enter Try.func62, Try.ntmps62
  go_wp2_with fail
  generalize (w.alloc (.cells #[.slice a1 n1 c1, .slice a2 n2 c2, .slice a3 n3 c3] 97)).alloc (.cells #[.slice b1 m1 d1, .slice b2 m2 d2, .slice b3 m3 d3] 97) = W at *
  refine (ints_any a1 b1 n1 m1 c1 d1 s1 t1 _ (i1.keep BW) (j1.keep BW)).mono ?_
  rintro e w1 ⟨rfl, q1, rfl⟩
  have hd1 := below_drewN (Below.refl W.heap.size W) q1
  replace y2 := blk_keep y2 hd1
  replace y3 := blk_keep y3 hd1
  replace BW := BW.trans (hd1.mono BW.size)
  clear f0 g0 hd1
  generalize W.drewN q1 = W1 at *
  by_cases e1 : s1 = t1
  case neg =>
    rw [show decide (s1 = t1) = false by simp [e1]]
    go_wp2_with fail
    go_ret
    exact ⟨ret_bool (by rw [← HR.out]; simp [e1]), BW⟩
  case pos =>
    rw [show decide (s1 = t1) = true by simp [e1]]
    have f1 := cell_block y2 1
    have g1 := cell_block y3 1
    have E1 := Lib.hid e1
    clear e1
    go_wp2_with fail
    refine (ints_any a2 b2 n2 m2 c2 d2 s2 t2 _ (i2.keep BW) (j2.keep BW)).mono ?_
    rintro e w1 ⟨rfl, q2, rfl⟩
    have hd1 := below_drewN (Below.refl W1.heap.size W1) q2
    replace y2 := blk_keep y2 hd1
    replace y3 := blk_keep y3 hd1
    replace BW := BW.trans (hd1.mono BW.size)
    clear f1 g1 hd1
    generalize W1.drewN q2 = W2 at *
    by_cases e2 : s2 = t2
    case neg =>
      rw [show decide (s2 = t2) = false by simp [e2]]
      go_wp2_with fail
      go_ret
      exact ⟨ret_bool (by rw [← HR.out]; simp [e2]), BW⟩
    case pos =>
      rw [show decide (s2 = t2) = true by simp [e2]]
      have f2 := cell_block y2 2
      have g2 := cell_block y3 2
      have E2 := Lib.hid e2
      clear e2
      by_cases e3 : n3 = m3
      case neg =>
        have b1 : ((n3 : Int) != (m3 : Int)) = true := by simp; omega
        go_wp2_with fail
        go_ret
        refine ⟨ret_bool ?_, BW⟩
        have hne : ¬ s3 = t3 := fun h => e3 (by rw [HL3.out, HK3.out, h])
        rw [← HR.out]
        simp [hne]
      case pos =>
        subst e3
        have bq : ((n3 : Int) != (n3 : Int)) = false := by simp
        go_wp2_with fail
        go_loopw [5] (fun i wr => ∃ k : Nat, k ≤ n3 ∧ i = .int .i64 k ∧ s3.take k = t3.take k ∧ Below W2.heap.size W2 wr) (fun i _ => n3 - (intOf i).toNat)
        case atStart => exact ⟨0, by omega, rfl, rfl, Below.refl _ _⟩
        case round =>
          clear f2 g2
          obtain ⟨k, hk, rfl, ht, hb⟩ := hrel
          have HT := Lib.hid ht
          clear ht
          have hB2 := BW.trans (hb.mono BW.size)
          have z2 := blk_keep y2 hb
          have z3 := blk_keep y3 hb
          have f2 := cell_block z2 2
          have g2 := cell_block z3 2
          by_cases hlt : k < n3
          · have hi : (k : Int) < (n3 : Int) := by omega
            have hi0 : (0 : Int) ≤ (k : Int) := by omega
            go_wp2_with fail
            refine Calmly.wp_region_mix 11 (.fl 0 <| .fl 1 <| .fl 2 <| .fl 3 <| .fl 4 <| .fl 5 <| .fl 6 <| .fl 7 <| .fl 8 <| .fl 9 <| .eff 10 <| .tail [11]) (by kernel_rfl) (by kernel_rfl) ?_
            have BD : Below wr.heap.size wr wr.drew := (Below.refl _ _).drew
            replace f2 := cell_block (blk_keep z2 BD) 2
            replace g2 := cell_block (blk_keep z3 BD) 2
            have hB3 := hB2.trans (BD.mono hB2.size)
            have hb3 := hb.trans (BD.mono hb.size)
            clear BD z2 z3
            generalize wr.drew = V at *
            have kH := hH.keep hB3
            have kH' := hH'.keep hB3
            obtain ⟨b1', o1, r1, hc1⟩ := kH.row.at_ (by omega)
            obtain ⟨b2', o2, r2, hc2⟩ := kH'.row.at_ (by omega)
            subst r1 r2
            obtain ⟨p0, p1⟩ := hc1 k hlt
            obtain ⟨q0, q1⟩ := hc2 k hlt
            obtain ⟨u0, u1, _⟩ := kH.hl k (by have := HL3.out; omega)
            obtain ⟨v0, v1, _⟩ := kH'.hl k (by have := HK3.out; omega)
            rw [u0] at p0
            rw [v0] at q0
            obtain ⟨xx, hxx⟩ : ∃ x, raw[k]?.getD hor0 = x := ⟨_, rfl⟩
            obtain ⟨yy, hyy⟩ : ∃ x, raw'[k]?.getD hor0 = x := ⟨_, rfl⟩
            obtain ⟨X, hX⟩ : ∃ x, s3[k]?.getD ho0 = x := ⟨_, rfl⟩
            obtain ⟨Y, hY⟩ : ∃ x, t3[k]?.getD ho0 = x := ⟨_, rfl⟩
            rw [hxx] at p1 u1
            rw [hyy] at q1 v1
            rw [hX] at p0 u1
            rw [hY] at q0 v1
            obtain ⟨w1, xa, xn, xc⟩ := xx
            obtain ⟨w2, ya, yn, yc⟩ := yy
            obtain ⟨A, xs⟩ := X
            obtain ⟨B, ys⟩ := Y
            dsimp only [hv] at p0 p1 q0 q1 u1 v1
            have HX := Lib.hid hX
            have HY := Lib.hid hY
            clear hc1 hc2 hxx hyy hX hY u0 v0 kH kH'
            have hkn := hlt
            have hkl := hk
            clear hk hlt
            have hk := Below.refl V.heap.size V
            by_cases he : A = B ∧ xs = ys
            · have HE := Lib.hid he
              clear he
              go_wp2_with (first | ((with_reducible refine Calmly.is_fl ?_); refine Calmly.mix_fl rfl ?_ (fun _ _ => ?_); (first | exact .move _ | exact .load _ _ | exact .fieldAddr _ _ _ (by kernel_rfl) | exact .assign _ | exact .binOp _ _ _ _ _ rfl | exact .indexAddr _ _ _ | exact .len _ _ (by kernel_rfl) | exact .field _ _ _ | exact .extract _ _ | exact .pick _ _ _ | exact .build _ _ | exact .slice _ _ _ _ _ | exact .unOp _ _ _ rfl | exact .index _ _ _ | exact .max _ _ _ rfl rfl | exact .min _ _ _ rfl rfl | exact .nilCheck _ _ rfl)) | ((with_reducible refine Calmly.is_gl ?_); refine Calmly.mix_gl rfl rfl rfl ?_; first | ((first | with_reducible refine Calmly.gl_tt ?_ (fun _ _ => ?_) | with_reducible refine Calmly.gl_ff ?_ (fun _ _ => ?_)); (first | exact .move _ | exact .load _ _ | exact .fieldAddr _ _ _ (by kernel_rfl) | exact .assign _ | exact .binOp _ _ _ _ _ rfl | exact .indexAddr _ _ _ | exact .len _ _ (by kernel_rfl) | exact .field _ _ _ | exact .extract _ _ | exact .pick _ _ _ | exact .build _ _ | exact .slice _ _ _ _ _ | exact .unOp _ _ _ rfl | exact .index _ _ _ | exact .max _ _ _ rfl rfl | exact .min _ _ _ rfl rfl | exact .nilCheck _ _ rfl)) | with_reducible refine Calmly.gl_tf (fun _ _ => ?_) | with_reducible refine Calmly.gl_ft (fun _ _ => ?_)) | ((with_reducible refine Calmly.is_eff ?_); refine Calmly.mix_eff rfl (fun _ _ => ?_)) | ((with_reducible refine Calmly.is_gf ?_); refine Calmly.mix_gf rfl rfl rfl ?_; first | with_reducible refine Calmly.gf_tt (fun _ _ => ?_) | with_reducible refine Calmly.gf_ff (fun _ _ => ?_) | with_reducible refine Calmly.gf_tf (kept_of hk) (fun _ _ => ?_) | with_reducible refine Calmly.gf_ft (kept_of hk) (fun _ _ => ?_)) | ((with_reducible refine Calmly.is_tail ?_); first | refine Calmly.mix_tail_nil ?_ | refine Calmly.mix_tail rfl (fun _ _ => ?_)) | ((with_reducible refine Calmly.is_kept ?_); refine ⟨kept_of hk, ?_⟩) | (with_reducible refine Calmly.mix_alt ?_ ?_) | (go_at_call 33; refine (sameHold_any A B xa ya xn yn xc yc xs ys _ (u1.keep hk) (v1.keep hk)).mono ?_; rintro e w5 ⟨rfl, hb5⟩; replace hk := step_of hk hb5; rw [show decide (A = B ∧ xs = ys) = true by simp [HE.out]]))
              go_roundw
              case rel => exact ⟨k + 1, by omega, by go_num, takeG_step ho0 HT.out (by have := HL3.out; omega) (by have := HK3.out; omega) (by rw [HX.out, HY.out, HE.out.1, HE.out.2]), hb3.trans (hk.mono hb3.size)⟩
              case measure => simp [intOf]; omega
            · have HE := Lib.hid he
              clear he
              go_wp2_with (first | ((with_reducible refine Calmly.is_fl ?_); refine Calmly.mix_fl rfl ?_ (fun _ _ => ?_); (first | exact .move _ | exact .load _ _ | exact .fieldAddr _ _ _ (by kernel_rfl) | exact .assign _ | exact .binOp _ _ _ _ _ rfl | exact .indexAddr _ _ _ | exact .len _ _ (by kernel_rfl) | exact .field _ _ _ | exact .extract _ _ | exact .pick _ _ _ | exact .build _ _ | exact .slice _ _ _ _ _ | exact .unOp _ _ _ rfl | exact .index _ _ _ | exact .max _ _ _ rfl rfl | exact .min _ _ _ rfl rfl | exact .nilCheck _ _ rfl)) | ((with_reducible refine Calmly.is_gl ?_); refine Calmly.mix_gl rfl rfl rfl ?_; first | ((first | with_reducible refine Calmly.gl_tt ?_ (fun _ _ => ?_) | with_reducible refine Calmly.gl_ff ?_ (fun _ _ => ?_)); (first | exact .move _ | exact .load _ _ | exact .fieldAddr _ _ _ (by kernel_rfl) | exact .assign _ | exact .binOp _ _ _ _ _ rfl | exact .indexAddr _ _ _ | exact .len _ _ (by kernel_rfl) | exact .field _ _ _ | exact .extract _ _ | exact .pick _ _ _ | exact .build _ _ | exact .slice _ _ _ _ _ | exact .unOp _ _ _ rfl | exact .index _ _ _ | exact .max _ _ _ rfl rfl | exact .min _ _ _ rfl rfl | exact .nilCheck _ _ rfl)) | with_reducible refine Calmly.gl_tf (fun _ _ => ?_) | with_reducible refine Calmly.gl_ft (fun _ _ => ?_)) | ((with_reducible refine Calmly.is_eff ?_); refine Calmly.mix_eff rfl (fun _ _ => ?_)) | ((with_reducible refine Calmly.is_gf ?_); refine Calmly.mix_gf rfl rfl rfl ?_; first | with_reducible refine Calmly.gf_tt (fun _ _ => ?_) | with_reducible refine Calmly.gf_ff (fun _ _ => ?_) | with_reducible refine Calmly.gf_tf (kept_of hk) (fun _ _ => ?_) | with_reducible refine Calmly.gf_ft (kept_of hk) (fun _ _ => ?_)) | ((with_reducible refine Calmly.is_tail ?_); first | refine Calmly.mix_tail_nil ?_ | refine Calmly.mix_tail rfl (fun _ _ => ?_)) | ((with_reducible refine Calmly.is_kept ?_); refine ⟨kept_of hk, ?_⟩) | (with_reducible refine Calmly.mix_alt ?_ ?_) | (go_at_call 33; refine (sameHold_any A B xa ya xn yn xc yc xs ys _ (u1.keep hk) (v1.keep hk)).mono ?_; rintro e w5 ⟨rfl, hb5⟩; replace hk := step_of hk hb5; rw [show decide (A = B ∧ xs = ys) = false by simpa using HE.out]))
              go_ret
              refine ⟨ret_bool ?_, hB3.trans (hk.mono hB3.size)⟩
              have hne : ¬ s3 = t3 := fun h => by
                subst h
                have h5 := HX.out.symm.trans HY.out
                injection h5 with h6 h7
                exact HE.out ⟨h6, h7⟩
              rw [← HR.out]
              simp [hne]
          · have hle : (n3 : Int) ≤ (k : Int) := by omega
            obtain rfl : n3 = k := by omega
            clear hlt hk
            go_wp2_with fail
            go_ret
            refine ⟨ret_bool ?_, hB2⟩
            have h5 := HT.out
            rw [List.take_of_length_le (by have := HL3.out; omega), List.take_of_length_le (by have := HK3.out; omega)] at h5
            rw [← HR.out]
            simp [E1.out, E2.out, h5]
end Go.Proofs.Ytaiikekgckjdeaa
