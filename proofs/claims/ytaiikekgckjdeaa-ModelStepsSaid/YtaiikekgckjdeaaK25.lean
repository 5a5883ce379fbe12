/- The reference's next displacements. The balance of a step: plain, and the model's. The balance of a step: the model's walk. The balance of a step: the model's, whole. -/
import Derived.Test.YtaiikekgckjdeaaK24
namespace Go.Proofs.Ytaiikekgckjdeaa
open Go.RowKit
open Calmly (Kept)
theorem ediv_bd {x d M : Int} (h1 : -M ≤ x) (h2 : x ≤ M) (hd : 1 ≤ d) (hM : 0 ≤ M) : -M ≤ x / d ∧ x / d ≤ M := by
  constructor
  · have h3 : -M / d ≤ x / d := Int.ediv_le_ediv (by omega) h1
    have h4 : -M ≤ -M / d := by
      rw [Int.le_ediv_iff_mul_le (by omega)]
      have := Int.mul_le_mul_of_nonneg_left hd hM
      have h5 : -M * d = -(M * d) := Int.neg_mul M d
      omega
    omega
  · have h3 : x / d ≤ M / d := Int.ediv_le_ediv (by omega) h2
    have h4 : M / d ≤ M := Int.ediv_le_self d hM
    omega
/-- An append to a row of numbers of the call's own, within a plan against an older world. -/
theorem mix_appO (i : Nat) {w0 Wx : World} {B : Nat} {k : Calmly.Plan} {dst : Option Tmp} {s x : Operand} {ty : TypeId} {pos : String} {after : Array Edge} {a : Act} {W0 : World} {ops : Array Oper} {Q : Exit → Act → World → Prop} {av : Option Addr} {n c : Nat} {xs : List Int} {v : Int}
    (hW : Wx = w0.alloc (.cells #[.int .i64 v] 3)) (hi : ops[i]? = some ⟨dst, .call { callee := .builtin .append, args := #[s, x], argTypes := #[25, 25] }, ty, pos, after, none⟩)
    (hown : OwI w0 B av n c xs) (hs : a.eval s = .slice av n c) (hx : a.eval x = .slice (some ⟨w0.heap.size, 0, none⟩) 1 1) (hb1 : n + 1 ≤ 17592186044416) (hB : B ≤ w0.heap.size)
    (h : ∀ a' c' w', OwI w' B a' (n + 1) c' (xs ++ [v]) → Below B w0 w' → w0.heap.size ≤ w'.heap.size → Kept W0 w' ∧ Calmly.WpMix Try.prog ops Q W0 k (a.put dst (.slice a' (n + 1) c')) w') :
    Calmly.WpMix Try.prog ops Q W0 (.eff i k) a Wx := by
  subst hW
  refine Calmly.mix_eff hi (fun K hK => ?_)
  obtain ⟨i0, hi0, hz0, hz1, hz2⟩ := info_parts Try.info_int
  have hb : Below B w0 (w0.alloc (.cells #[.int .i64 v] 3)) := (Below.refl _ _).alloc hB _
  obtain ⟨v', w', hrun, r1, r2, _⟩ := run_append_own (P := Try.prog) (w0.alloc (.cells #[.int .i64 v] 3)) B 25 ty _ i0 (.int .i64 0) 1 8 Try.underlying25 hi0 hz0 hz1 hz2 rfl (by decide) (.slice av n c) n _ (World.ownsRow.alloc hown _) ⟨w0.heap.size, 0, none⟩ 1 1 [Value.int .i64 v] rfl (cells_new w0 _ _) (by simp [Value.oneCell']) (by unfold maxLen; omega) (by omega) (by simp; omega)
  obtain ⟨a', c', rfl⟩ := owns_slice r1
  have hrow : ∀ j, (Value.slice av n c).ownBlock = some j → B ≤ j := fun j hj => (World.ownsRow.lt hown j hj).1
  have hb2 : Below B w0 w' := hb.trans (grown_below r2 (by simp; omega) hrow)
  have ho : OwI w' B a' (n + 1) c' (xs ++ [v]) := by unfold OwI; simpa using r1
  unfold Oper.wp
  simp [execOp, resolve, invoke, builtin, hs, hx, hrun, Result.andThen]
  exact hK _ _ (h a' c' w' ho hb2 hb2.size)
/-- What lies between two rounds. -/
structure NxI (w : World) (a a1 a2 a3 : Option Addr) (n c n1 c1 n2 c2 n3 c3 k : Nat) (av : Option Addr) (cv : Nat) (rows : List Int) (W : World) : Prop where
  bel : Below w.heap.size w W
  r3 : W.heap[w.heap.size]? = some (.cells #[.slice a n c] 24)
  r4 : W.heap[w.heap.size + 1]? = some (.cells #[.slice a1 n1 c1, .slice a2 n2 c2, .slice a3 n3 c3] 97)
  out : OwI W (w.heap.size + 1 + 1) av k cv rows
  sz : w.heap.size + 1 + 1 ≤ W.heap.size
set_option maxRecDepth 100000 in
set_option maxHeartbeats 2000000 in
theorem rNext_any (a a1 a2 a3 : Option Addr) (n c n1 c1 n2 c2 n3 c3 : Nat) (g : Int) (raw : List FlR) (fs : List Fl) (s : St) (w : World) (h1 : FrV w a n c raw fs) (h2 : StW w ((a1, n1, c1), (a2, n2, c2), (a3, n3, c3)) s) (hO : StOk fs s) (hg : -100 ≤ g ∧ g ≤ 100) :
    Calls Try.prog 120 #[.agg #[.slice a n c], .agg #[.slice a1 n1 c1, .slice a2 n2 c2, .slice a3 n3 c3], .int .i64 g] w fun e w' => ∃ av cv, e = .returned (.slice av n cv) ∧ OwI w' w.heap.size av n cv (nxts fs s g) ∧ Below w.heap.size w w' := by
  have hln := h1.n_
  have hln1 : n1 = n := by have h5 := h2.now.len; have h6 := hO.now; dsimp only at h5; omega
  have hln2 : n2 = n := by have h5 := h2.bef.len; have h6 := hO.bef; dsimp only at h5; omega
  have m1 := h1.row.max
  have cc1 := h1.row.cap
  have m2 := h2.now.max
  have cc2 := h2.now.cap
  have m3 := h2.bef.max
  have cc3 := h2.bef.cap
  dsimp only at m2 cc2 m3 cc3
  have hfo := frmE_ok hO.frm
  have hn5 : n ≤ 5 := by omega
  subst hln1 hln2
  obtain ⟨g1, g2⟩ := hg
  have HLN := Lib.hid hln
  have HFO := Lib.hid hfo.2
  have y3 := blk_keep (alloc_new w (.cells #[.slice a n2 c] 24)) ((Below.refl _ _).alloc (Nat.le_refl _) (.cells #[.slice a1 n2 c1, .slice a2 n2 c2, .slice a3 n3 c3] 97))
  have y4 := alloc_new (w.alloc (.cells #[.slice a n2 c] 24)) (.cells #[.slice a1 n2 c1, .slice a2 n2 c2, .slice a3 n3 c3] 97)
  have BW : Below w.heap.size w ((w.alloc (.cells #[.slice a n2 c] 24)).alloc (.cells #[.slice a1 n2 c1, .slice a2 n2 c2, .slice a3 n3 c3] 97)) := ((Below.refl _ _).alloc (Nat.le_refl _) _).alloc (by simp) _
  have hsz : ((w.alloc (.cells #[.slice a n2 c] 24)).alloc (.cells #[.slice a1 n2 c1, .slice a2 n2 c2, .slice a3 n3 c3] 97)).heap.size = w.heap.size + 1 + 1 := by simp
  have HSZ := Lib.hid hsz
  simp only [World.size_alloc] at y4
  clear hln hfo hsz
  go_enter Try.func120, Try.ntmps120
  go_wp2_with fail
  generalize (w.alloc (.cells #[.slice a n2 c] 24)).alloc (.cells #[.slice a1 n2 c1, .slice a2 n2 c2, .slice a3 n3 c3] 97) = W at *
  go_loopw [7, 8] (fun x i wr => ∃ (k : Nat) (av : Option Addr) (cv : Nat), k ≤ n2 ∧ i = .int .i64 (k : Int) ∧ x = .slice av k cv ∧ NxI w a a1 a2 a3 n2 c n2 c1 n2 c2 n3 c3 k av cv ((List.range k).map (nxS fs s g)) wr ∧ Below W.heap.size W wr) (fun _ i _ => n2 - (intOf i).toNat)
  case atStart => exact ⟨0, none, 0, by omega, rfl, rfl, ⟨BW, y3, y4, OwI.nil _ _, by rw [HSZ.out]; omega⟩, Below.refl _ _⟩
  case round =>
    obtain ⟨k, av, cv, hk, rfl, rfl, ⟨hb, z3, z4, hOw, hsz⟩, hbW⟩ := hrel
    have f0 := cell_block z3 0
    by_cases hlt : k < n2
    · have hkl : k < fs.length := by have := HLN.out; omega
      have hi : (k : Int) < (n2 : Int) := by omega
      have hi0 : (0 : Int) ≤ (k : Int) := by omega
      go_wp2_with fail
      refine Calmly.wp_region_mix_at W (kept_of hbW) 29 (.fl 0 <| .fl 1 <| .fl 2 <| .fl 3 <| .fl 4 <| .fl 5 <| .fl 6 <| .fl 7 <| .fl 8 <| .fl 9 <| .fl 10 <| .fl 11 <| .fl 12 <| .fl 13 <| .fl 14 <| .fl 15 <| .fl 17 <| .fl 18 <| .fl 19 <| .fl 20 <| .fl 21 <| .fl 22 <| .fl 25 <| .eff 16 <| .eff 23 <| .fl 24 <| .fl 26 <| .eff 27 <| .eff 28 <| .tail [29]) (by kernel_rfl) (by kernel_rfl) ?_
      have BD : Below wr.heap.size wr wr.drew := (Below.refl _ _).drew
      replace z3 := blk_keep z3 BD
      replace z4 := blk_keep z4 BD
      replace hOw := OwI.keepM hOw BD
      replace hb := hb.trans (BD.mono hb.size)
      replace hbW := hbW.trans (BD.mono hbW.size)
      have hsz2 : w.heap.size + 1 + 1 ≤ wr.drew.heap.size := Nat.le_trans hsz BD.size
      clear BD hsz f0
      generalize wr.drew = V at *
      have hF := h1.keep BW
      have hSt := h2.keep BW
      have hmass := (flErr_ok (HFO.out k hkl)).1
      have hnb := hO.nbd k
      have hbb := hO.bbd k
      have hpb := psA_bd (F := frS fs s) (k := fs.length) (i := k) (M := 200000000) (fun i => hO.frS_bd i)
      have hnx : nxS fs s g k = 2 * s.1[k]?.getD 0 - s.2.1[k]?.getD 0 + psA (frS fs s) fs.length k / (fs[k]?.getD fl0).1 - g := rfl
      have hrows : (List.range (k + 1)).map (nxS fs s g) = (List.range k).map (nxS fs s g) ++ [nxS fs s g k] := by rw [List.range_succ, List.map_append]; rfl
      rw [hnx] at hrows
      obtain ⟨b1', o1, e1', hc1⟩ := hF.row.at_ (by omega)
      obtain ⟨b2', o2, e2', hc2⟩ := hSt.now.at_ (show 0 < n2 by omega)
      obtain ⟨b3', o3, e3', hc3⟩ := hSt.bef.at_ (show 0 < n2 by omega)
      dsimp only at e2' e3'
      subst e1' e2' e3'
      obtain ⟨p0, _, _⟩ := hc1 k hlt
      have q0 := hc2 k hlt
      have r0 := hc3 k hlt
      rw [(hF.fl k hkl).1] at p0
      obtain ⟨MS, hMS⟩ : ∃ x, (fs[k]?.getD fl0).1 = x := ⟨_, rfl⟩
      obtain ⟨NW, hNW⟩ : ∃ x, s.1[k]?.getD 0 = x := ⟨_, rfl⟩
      obtain ⟨BF, hBF⟩ : ∃ x, s.2.1[k]?.getD 0 = x := ⟨_, rfl⟩
      obtain ⟨PA, hPA⟩ : ∃ x, psA (frS fs s) fs.length k = x := ⟨_, rfl⟩
      rw [hMS] at p0 hmass hrows
      rw [hNW] at q0 hnb hrows
      rw [hBF] at r0 hbb hrows
      rw [hPA] at hpb hrows
      have hfl := ediv_bd (x := PA) (d := MS) (M := 400000000) (by omega) (by omega) (by omega) (by omega)
      obtain ⟨FQ, hFQ⟩ : ∃ x, PA / MS = x := ⟨_, rfl⟩
      rw [hFQ] at hfl hrows
      obtain ⟨k1, k2⟩ := hmass
      obtain ⟨k3, k4⟩ := hnb
      obtain ⟨k5, k6⟩ := hbb
      obtain ⟨k7, k8⟩ := hpb
      obtain ⟨k9, k10⟩ := hfl
      have HROWS := Lib.hid hrows
      have HPA := Lib.hid hPA
      have HFQ := Lib.hid hFQ
      have hkn := hlt
      clear hc1 hc2 hc3 hnx hrows hMS hNW hBF hPA hFQ hk hlt
      have hk := hbW
      have f0 := cell_block y3 0
      have g0 := cell_block y4 0
      have g1' := cell_block y4 1
      have g2' := cell_block y4 2
      go_wp2_with (first | (refine mix_appO (w0 := w5) (B := w.heap.size + 1 + 1) 28 rfl rfl hO5 rfl rfl (by omega) hB5 (fun a9 c9 w9 ho9 hb9 hs9 => ?_); have hk9 := hk5.trans (show Below W.heap.size w5 w9 by rw [HSZ.out]; exact hb9); refine ⟨kept_of hk9, ?_⟩) | ((with_reducible refine Calmly.is_fl ?_); refine Calmly.mix_fl rfl ?_ (fun _ _ => ?_); (first | exact .move _ | exact .load _ _ | exact .fieldAddr _ _ _ (by kernel_rfl) | exact .assign _ | exact .binOp _ _ _ _ _ rfl | exact .indexAddr _ _ _ | exact .len _ _ (by kernel_rfl) | exact .field _ _ _ | exact .extract _ _ | exact .pick _ _ _ | exact .build _ _ | exact .slice _ _ _ _ _ | exact .unOp _ _ _ rfl | exact .index _ _ _ | exact .max _ _ _ rfl rfl | exact .min _ _ _ rfl rfl | exact .nilCheck _ _ rfl)) | ((with_reducible refine Calmly.is_gl ?_); refine Calmly.mix_gl rfl rfl rfl ?_; first | ((first | with_reducible refine Calmly.gl_tt ?_ (fun _ _ => ?_) | with_reducible refine Calmly.gl_ff ?_ (fun _ _ => ?_)); (first | exact .move _ | exact .load _ _ | exact .fieldAddr _ _ _ (by kernel_rfl) | exact .assign _ | exact .binOp _ _ _ _ _ rfl | exact .indexAddr _ _ _ | exact .len _ _ (by kernel_rfl) | exact .field _ _ _ | exact .extract _ _ | exact .pick _ _ _ | exact .build _ _ | exact .slice _ _ _ _ _ | exact .unOp _ _ _ rfl | exact .index _ _ _ | exact .max _ _ _ rfl rfl | exact .min _ _ _ rfl rfl | exact .nilCheck _ _ rfl)) | with_reducible refine Calmly.gl_tf (fun _ _ => ?_) | with_reducible refine Calmly.gl_ft (fun _ _ => ?_)) | ((with_reducible refine Calmly.is_eff ?_); refine Calmly.mix_eff rfl (fun _ _ => ?_)) | ((with_reducible refine Calmly.is_gf ?_); refine Calmly.mix_gf rfl rfl rfl ?_; first | with_reducible refine Calmly.gf_tt (fun _ _ => ?_) | with_reducible refine Calmly.gf_ff (fun _ _ => ?_) | with_reducible refine Calmly.gf_tf (kept_of hk) (fun _ _ => ?_) | with_reducible refine Calmly.gf_ft (kept_of hk) (fun _ _ => ?_)) | ((with_reducible refine Calmly.is_tail ?_); first | refine Calmly.mix_tail_nil ?_ | refine Calmly.mix_tail rfl (fun _ _ => ?_)) | ((with_reducible refine Calmly.is_kept ?_); refine ⟨kept_of hk, ?_⟩) | (with_reducible refine Calmly.mix_alt ?_ ?_) | (refine kept_alloc hk (fun hk' hblk hge => ?_); replace hk := hk'; clear hk') | (go_at_call 121; refine (rPush_any _ _ _ _ n2 c n2 c1 n2 c2 n3 c3 k raw fs s _ (hF.keep hk) (hSt.keep hk) hO hkn).mono ?_; rintro e w5 ⟨rfl, hb5⟩; rw [HPA.out]; have hO5 := OwI.keepM hOw hb5; have hB5 := Nat.le_trans hsz2 hb5.size; replace hk := step_of hk hb5; have hk5 := hk; have hb6 := hb.trans (hb5.mono hb.size)) | (go_at_call 142; refine (floor_any PA MS _ (by omega) (by omega) (by omega) (by omega)).mono ?_; rintro e w6 ⟨rfl, rfl⟩; rw [HFQ.out]))
      go_roundw
      case rel => exact ⟨k + 1, a9, c9, by omega, by go_num, rfl, ⟨hb6.trans (hb9.mono (by omega)), blk_keep y3 hk9, blk_keep y4 hk9, by rw [HROWS.out]; exact ho9, by have := hb9.size; omega⟩, hk9⟩
      case measure => simp [intOf]; omega
    · have hle : (n2 : Int) ≤ (k : Int) := by omega
      obtain rfl : n2 = k := by omega
      clear hlt hk
      go_wp2_with fail
      go_ret
      exact ⟨_, _, rfl, by rw [nxts, ← HLN.out]; exact owns_lower hOw (by omega), hb⟩
end Go.Proofs.Ytaiikekgckjdeaa

namespace Go.Proofs.Ytaiikekgckjdeaa
open Go.RowKit
open Calmly (Kept)
/-- The parts of a floor in a balance, with the push, the mass, the displacements. -/
def baV (fs : List Fl) (s : St) (g : Int) (i : Nat) : Int := nxS fs s g i - s.1[i]?.getD 0
def baU (s : St) (i : Nat) : Int := s.1[i]?.getD 0 - s.2.1[i]?.getD 0
def baP (fs : List Fl) (s : St) (i : Nat) : Int := psA (frS fs s) fs.length i
def baM (fs : List Fl) (i : Nat) : Int := (fs[i]?.getD fl0).1
def baK (fs : List Fl) (s : St) (g : Int) (i : Nat) : Int := baM fs i * (baV fs s g i * baV fs s g i - baU s i * baU s i)
def baS (fs : List Fl) (s : St) (g : Int) (i : Nat) : Int := baP fs s i * (baV fs s g i + baU s i)
def baG (fs : List Fl) (s : St) (g : Int) (i : Nat) : Int := baM fs i * g * (baV fs s g i + baU s i)
def baR (fs : List Fl) (s : St) (g : Int) (i : Nat) : Int := baP fs s i % baM fs i * (baV fs s g i + baU s i)
/-- What is known of one floor in a balance. -/
structure BaF (M P g X NW BF : Int) (V U Wv VV UU DV KF SF MG GF FQ MQ RR RF : Int) : Prop where
  v : X - NW = V
  u : NW - BF = U
  w : V + U = Wv
  vv : V * V = VV
  uu : U * U = UU
  dv : VV - UU = DV
  kf : M * DV = KF
  sf : P * Wv = SF
  mg : M * g = MG
  gf : MG * Wv = GF
  fq : P / M = FQ
  mq : M * FQ = MQ
  rr : P - MQ = RR
  rm : P % M = RR
  rf : RR * Wv = RF
  bv : -500000000 ≤ V ∧ V ≤ 500000000
  bu : -20000 ≤ U ∧ U ≤ 20000
  bw : -500000000 ≤ Wv ∧ Wv ≤ 500000000
  bvv : -250000000000000000 ≤ VV ∧ VV ≤ 250000000000000000
  buu : -400000000 ≤ UU ∧ UU ≤ 400000000
  bkf : -600000000000000000 ≤ KF ∧ KF ≤ 600000000000000000
  bsf : -200000000000000000 ≤ SF ∧ SF ≤ 200000000000000000
  bmg : -1000000 ≤ MG ∧ MG ≤ 1000000
  bgf : -500000000000000 ≤ GF ∧ GF ≤ 500000000000000
  bfq : -400000000 ≤ FQ ∧ FQ ≤ 400000000
  bmq : -500000000 ≤ MQ ∧ MQ ≤ 500000000
  brr : 0 ≤ RR ∧ RR ≤ 10000
  brf : -5000000000000 ≤ RF ∧ RF ≤ 5000000000000
  bm : 1 ≤ M ∧ M ≤ 10000
  bp : -400000000 ≤ P ∧ P ≤ 400000000
  bg : -100 ≤ g ∧ g ≤ 100
  bx : -500000000 ≤ X ∧ X ≤ 500000000
  bnw : -10000 ≤ NW ∧ NW ≤ 10000
  bbf : -10000 ≤ BF ∧ BF ≤ 10000
theorem baF_of {M P g X NW BF : Int} (bm : 1 ≤ M ∧ M ≤ 10000) (bp : -400000000 ≤ P ∧ P ≤ 400000000) (bg : -100 ≤ g ∧ g ≤ 100) (bnw : -10000 ≤ NW ∧ NW ≤ 10000) (bbf : -10000 ≤ BF ∧ BF ≤ 10000) (hX : X = 2 * NW - BF + P / M - g) :
    ∃ V U Wv VV UU DV KF SF MG GF FQ MQ RR RF, BaF M P g X NW BF V U Wv VV UU DV KF SF MG GF FQ MQ RR RF := by
  obtain ⟨FQ, hFQ⟩ : ∃ q, P / M = q := ⟨_, rfl⟩
  have hq := ediv_bd (x := P) (d := M) (M := 400000000) bp.1 bp.2 bm.1 (by omega)
  have hdm := Int.mul_ediv_add_emod P M
  have hr0 := Int.emod_nonneg P (show M ≠ 0 by omega)
  have hr1 := Int.emod_lt_of_pos P (show 0 < M by omega)
  rw [hFQ] at hq hX hdm
  obtain ⟨MQ, hMQ⟩ : ∃ q, M * FQ = q := ⟨_, rfl⟩
  obtain ⟨RR, hRR⟩ : ∃ q, P % M = q := ⟨_, rfl⟩
  rw [hMQ, hRR] at hdm
  rw [hRR] at hr0 hr1
  obtain ⟨V, hV⟩ : ∃ q, X - NW = q := ⟨_, rfl⟩
  obtain ⟨U, hU⟩ : ∃ q, NW - BF = q := ⟨_, rfl⟩
  have bV : -500000000 ≤ V ∧ V ≤ 500000000 := by omega
  have bU : -20000 ≤ U ∧ U ≤ 20000 := by omega
  have bW : -500000000 ≤ V + U ∧ V + U ≤ 500000000 := by omega
  have k1 := mul_abs (a := V) (x := V) (A := 500000000) (C := 500000000) bV.1 bV.2 bV.1 bV.2
  have k2 := mul_abs (a := U) (x := U) (A := 20000) (C := 20000) bU.1 bU.2 bU.1 bU.2
  have k3 := mul_abs (a := M) (x := g) (A := 10000) (C := 100) (by omega) bm.2 bg.1 bg.2
  have k4 := mul_abs (a := M * g) (x := V + U) (A := 1000000) (C := 500000000) (by omega) (by omega) bW.1 bW.2
  have k5 := mul_abs (a := P) (x := V + U) (A := 400000000) (C := 500000000) bp.1 bp.2 bW.1 bW.2
  have k6 := mul_abs (a := RR) (x := V + U) (A := 10000) (C := 500000000) (by omega) (by omega) bW.1 bW.2
  have k7 := mul_abs (a := M) (x := U) (A := 10000) (C := 20000) (by omega) bm.2 bU.1 bU.2
  have hVq : V = U + FQ - g := by omega
  have hMV : M * V = M * U + MQ - M * g := by rw [hVq, ← hMQ]; grind
  have bMV : -1000000000 ≤ M * V ∧ M * V ≤ 1000000000 := by omega
  have k8 := mul_abs (a := M * V) (x := V) (A := 1000000000) (C := 500000000) bMV.1 bMV.2 bV.1 bV.2
  have k9 := mul_abs (a := M * U) (x := U) (A := 200000000) (C := 20000) (by omega) (by omega) bU.1 bU.2
  have hK : M * (V * V - U * U) = M * V * V - M * U * U := by grind
  refine ⟨V, U, V + U, V * V, U * U, V * V - U * U, M * (V * V - U * U), P * (V + U), M * g, M * g * (V + U), FQ, MQ, RR, RR * (V + U), ⟨hV, hU, rfl, rfl, rfl, rfl, rfl, rfl, rfl, rfl, hFQ, hMQ, by omega, hRR, rfl, bV, bU, bW, by omega, by omega, ?_, by omega, by omega, by omega, hq, by omega, by omega, by omega, bm, bp, bg, by omega, bnw, bbf⟩⟩
  rw [hK]
  omega
theorem baF_at {fs : List Fl} {s : St} {g : Int} (ok : StOk fs s) (hg : -100 ≤ g ∧ g ≤ 100) (h1 : ∀ i : Nat, -10000 ≤ s.1[i]?.getD 0 ∧ s.1[i]?.getD 0 ≤ 10000) (h2 : ∀ i : Nat, -10000 ≤ s.2.1[i]?.getD 0 ∧ s.2.1[i]?.getD 0 ≤ 10000) {i : Nat} (hi : i < fs.length) :
    ∃ V U Wv VV UU DV KF SF MG GF FQ MQ RR RF, BaF (baM fs i) (baP fs s i) g (nxS fs s g i) (s.1[i]?.getD 0) (s.2.1[i]?.getD 0) V U Wv VV UU DV KF SF MG GF FQ MQ RR RF ∧ baK fs s g i = KF ∧ baS fs s g i = SF ∧ baG fs s g i = GF ∧ baR fs s g i = RF := by
  have hm := (flErr_ok ((frmE_ok ok.frm).2 i hi)).1
  have hp := psA_bd (F := frS fs s) (k := fs.length) (i := i) (M := 200000000) (fun j => ok.frS_bd j)
  obtain ⟨V, U, Wv, VV, UU, DV, KF, SF, MG, GF, FQ, MQ, RR, RF, h⟩ := baF_of (M := baM fs i) (P := baP fs s i) (g := g) (X := nxS fs s g i) hm (by unfold baP; omega) hg (h1 i) (h2 i) (by rw [nxS, baP, baM])
  refine ⟨V, U, Wv, VV, UU, DV, KF, SF, MG, GF, FQ, MQ, RR, RF, h, ?_, ?_, ?_, ?_⟩
  · rw [baK, baV, baU, h.v, h.u, h.vv, h.uu, h.dv, h.kf]
  · rw [baS, baV, baU, h.v, h.u, h.w, h.sf]
  · rw [baG, baV, baU, h.v, h.u, h.w, h.mg, h.gf]
  · rw [baR, baV, baU, h.v, h.u, h.w, h.rm, h.rf]
/-- The sums so far. -/
def balSt (fs : List Fl) (s : St) (g : Int) (k : Nat) : List Value := [.int .i64 (sumR (baK fs s g) k), .int .i64 (sumR (baS fs s g) k), .int .i64 (-sumR (baG fs s g) k), .int .i64 (sumR (baR fs s g) k)]
theorem bal_bd {fs : List Fl} {s : St} {g : Int} (ok : StOk fs s) (hg : -100 ≤ g ∧ g ≤ 100) (h1 : ∀ i : Nat, -10000 ≤ s.1[i]?.getD 0 ∧ s.1[i]?.getD 0 ≤ 10000) (h2 : ∀ i : Nat, -10000 ≤ s.2.1[i]?.getD 0 ∧ s.2.1[i]?.getD 0 ≤ 10000) {k : Nat} (hk : k ≤ fs.length) :
    (-3000000000000000000 ≤ sumR (baK fs s g) k ∧ sumR (baK fs s g) k ≤ 3000000000000000000) ∧ (-3000000000000000000 ≤ sumR (baS fs s g) k ∧ sumR (baS fs s g) k ≤ 3000000000000000000) ∧ (-3000000000000000000 ≤ sumR (baG fs s g) k ∧ sumR (baG fs s g) k ≤ 3000000000000000000) ∧ (-3000000000000000000 ≤ sumR (baR fs s g) k ∧ sumR (baR fs s g) k ≤ 3000000000000000000) := by
  have h5 := (frmE_ok ok.frm).1
  have hall : ∀ i, i < k → (-600000000000000000 ≤ baK fs s g i ∧ baK fs s g i ≤ 600000000000000000) ∧ (-600000000000000000 ≤ baS fs s g i ∧ baS fs s g i ≤ 600000000000000000) ∧ (-600000000000000000 ≤ baG fs s g i ∧ baG fs s g i ≤ 600000000000000000) ∧ (-600000000000000000 ≤ baR fs s g i ∧ baR fs s g i ≤ 600000000000000000) := fun i hi => by
    obtain ⟨V, U, Wv, VV, UU, DV, KF, SF, MG, GF, FQ, MQ, RR, RF, h, e1, e2, e3, e4⟩ := baF_at ok hg h1 h2 (show i < fs.length by omega)
    rw [e1, e2, e3, e4]
    have k1 := h.bkf
    have k2 := h.bsf
    have k3 := h.bgf
    have k4 := h.brf
    omega
  have c1 := sumR_abs (f := baK fs s g) (M := 600000000000000000) (n := k) (fun i hi => (hall i hi).1)
  have c2 := sumR_abs (f := baS fs s g) (M := 600000000000000000) (n := k) (fun i hi => (hall i hi).2.1)
  have c3 := sumR_abs (f := baG fs s g) (M := 600000000000000000) (n := k) (fun i hi => (hall i hi).2.2.1)
  have c4 := sumR_abs (f := baR fs s g) (M := 600000000000000000) (n := k) (fun i hi => (hall i hi).2.2.2)
  omega
end Go.Proofs.Ytaiikekgckjdeaa

namespace Go.Proofs.Ytaiikekgckjdeaa
open Go.RowKit
open Calmly (Kept)
/-- What lies between two rounds. -/
structure BlI (w : World) (K S G R : Int) (W : World) : Prop where
  bel : Below w.heap.size w W
  t2 : W.heap[w.heap.size]? = some (.cells #[.int .i64 0, .int .i64 0, .int .i64 0, .int .i64 0] 103)
  t3 : W.heap[w.heap.size + 1]? = some (.cells #[.int .i64 K, .int .i64 S, .int .i64 G, .int .i64 R] 103)
theorem BlI.keep {w W W' : World} {K S G R : Int} (h : BlI w K S G R W) (hb : Below W.heap.size W W') : BlI w K S G R W' := ⟨h.bel.trans (hb.mono h.bel.size), blk_keep h.t2 hb, blk_keep h.t3 hb⟩
theorem BlI.set0 {w W : World} {K S G R : Int} (h : BlI w K S G R W) (x : Int) : BlI w x S G R (W.setCell ⟨w.heap.size + 1, 0, none⟩ (.int .i64 x)) :=
  ⟨h.bel.setCell (by show w.heap.size ≤ w.heap.size + 1; omega) _, (Below.heap_setCell _ _ _ _ (by show w.heap.size ≠ w.heap.size + 1; omega)).trans h.t2, by have q := setBlk h.t3 0 (.int .i64 x); simpa using q⟩
theorem BlI.set1 {w W : World} {K S G R : Int} (h : BlI w K S G R W) (x : Int) : BlI w K x G R (W.setCell ⟨w.heap.size + 1, 1, none⟩ (.int .i64 x)) :=
  ⟨h.bel.setCell (by show w.heap.size ≤ w.heap.size + 1; omega) _, (Below.heap_setCell _ _ _ _ (by show w.heap.size ≠ w.heap.size + 1; omega)).trans h.t2, by have q := setBlk h.t3 1 (.int .i64 x); simpa using q⟩
theorem BlI.set2 {w W : World} {K S G R : Int} (h : BlI w K S G R W) (x : Int) : BlI w K S x R (W.setCell ⟨w.heap.size + 1, 2, none⟩ (.int .i64 x)) :=
  ⟨h.bel.setCell (by show w.heap.size ≤ w.heap.size + 1; omega) _, (Below.heap_setCell _ _ _ _ (by show w.heap.size ≠ w.heap.size + 1; omega)).trans h.t2, by have q := setBlk h.t3 2 (.int .i64 x); simpa using q⟩
theorem BlI.set3 {w W : World} {K S G R : Int} (h : BlI w K S G R W) (x : Int) : BlI w K S G x (W.setCell ⟨w.heap.size + 1, 3, none⟩ (.int .i64 x)) :=
  ⟨h.bel.setCell (by show w.heap.size ≤ w.heap.size + 1; omega) _, (Below.heap_setCell _ _ _ _ (by show w.heap.size ≠ w.heap.size + 1; omega)).trans h.t2, by have q := setBlk h.t3 3 (.int .i64 x); simpa using q⟩
set_option maxRecDepth 100000 in
set_option maxHeartbeats 4000000 in
theorem balance_any (b : Nat) (a a1 a2 a3 pa xa : Option Addr) (n c c1 c2 c3 pc xc : Nat) (g : Int) (raw : List FlR) (fs : List Fl) (s : St) (w : World) (h1 : FrV w a n c raw fs) (hx : w.heap[b]? = some (.cells #[.slice a n c, .slice a1 n c1, .slice a2 n c2, .slice a3 n c3, .int .i64 g, .slice pa n pc, .slice xa n xc] 188)) (v1 : SI w a1 n c1 s.1) (v2 : SI w a2 n c2 s.2.1) (vp : SI w pa n pc (psF (frS fs s) n n)) (vx : SI w xa n xc (nxts fs s g))
    (ok : StOk fs s) (hg : -100 ≤ g ∧ g ≤ 100) (hp1 : ∀ i : Nat, -10000 ≤ s.1[i]?.getD 0 ∧ s.1[i]?.getD 0 ≤ 10000) (hp2 : ∀ i : Nat, -10000 ≤ s.2.1[i]?.getD 0 ∧ s.2.1[i]?.getD 0 ≤ 10000) :
    Calls Try.prog 119 #[.pointer (some ⟨b, 0, none⟩)] w fun e w' => e = .returned (.agg #[.int .i64 (sumR (baK fs s g) n), .int .i64 (sumR (baS fs s g) n), .int .i64 (-sumR (baG fs s g) n), .int .i64 (sumR (baR fs s g) n)]) ∧ Below w.heap.size w w' := by
  have hn := h1.n_
  have m0 := h1.row.max
  have q0 := h1.row.cap
  have m1 := v1.max
  have q1 := v1.cap
  have m2 := v2.max
  have q2 := v2.cap
  have m3 := vp.max
  have q3 := vp.cap
  have m4 := vx.max
  have q4 := vx.cap
  have HN := Lib.hid hn
  have HAT := Lib.hid (fun (i : Nat) (hi : i < fs.length) => baF_at (g := g) ok hg hp1 hp2 hi)
  have HBD := Lib.hid (fun (k : Nat) (hk : k ≤ fs.length) => bal_bd (g := g) ok hg hp1 hp2 hk)
  have hbw := blk_lt hx
  clear hn ok hp1 hp2
  have y2 := blk_keep (alloc_new w (.cells #[.int .i64 0, .int .i64 0, .int .i64 0, .int .i64 0] 103)) ((Below.refl _ _).alloc (Nat.le_refl _) (.cells #[.int .i64 0, .int .i64 0, .int .i64 0, .int .i64 0] 103))
  have y3 := alloc_new (w.alloc (.cells #[.int .i64 0, .int .i64 0, .int .i64 0, .int .i64 0] 103)) (.cells #[.int .i64 0, .int .i64 0, .int .i64 0, .int .i64 0] 103)
  have BW : Below w.heap.size w ((w.alloc (.cells #[.int .i64 0, .int .i64 0, .int .i64 0, .int .i64 0] 103)).alloc (.cells #[.int .i64 0, .int .i64 0, .int .i64 0, .int .i64 0] 103)) := ((Below.refl _ _).alloc (Nat.le_refl _) _).alloc (by simp) _
  simp only [World.size_alloc] at y3
  have f0 := cell_block (blk_keep hx BW) 0
  go_enter Try.func119, Try.ntmps119
  go_wp2_with fail
  have hI0 : BlI w 0 0 0 0 ((w.alloc (.cells #[.int .i64 0, .int .i64 0, .int .i64 0, .int .i64 0] 103)).alloc (.cells #[.int .i64 0, .int .i64 0, .int .i64 0, .int .i64 0] 103)) := ⟨BW, y2, y3⟩
  clear y2 y3 BW f0
  generalize (w.alloc (.cells #[.int .i64 0, .int .i64 0, .int .i64 0, .int .i64 0] 103)).alloc (.cells #[.int .i64 0, .int .i64 0, .int .i64 0, .int .i64 0] 103) = W at *
  go_loopw [15] (fun i wr => ∃ k : Nat, k ≤ n ∧ i = .int .i64 (k : Int) ∧ BlI w (sumR (baK fs s g) k) (sumR (baS fs s g) k) (-sumR (baG fs s g) k) (sumR (baR fs s g) k) wr) (fun i _ => n - (intOf i).toNat)
  case atStart => exact ⟨0, by omega, rfl, hI0⟩
  case round =>
    clear hI0
    obtain ⟨k, hk, rfl, hI⟩ := hrel
    by_cases hlt : k < n
    · have hkl : k < fs.length := by have := HN.out; omega
      obtain ⟨V, U, Wv, VV, UU, DV, KF, SF, MG, GF, FQ, MQ, RR, RF, hF, e1, e2, e3, e4⟩ := HAT.out k hkl
      obtain ⟨bK, bS, bG, bR⟩ := HBD.out k (by omega)
      have s1 : sumR (baK fs s g) (k + 1) = sumR (baK fs s g) k + KF := by rw [sumR, e1]
      have s2 : sumR (baS fs s g) (k + 1) = sumR (baS fs s g) k + SF := by rw [sumR, e2]
      have s3 : -sumR (baG fs s g) (k + 1) = -sumR (baG fs s g) k - GF := by rw [sumR, e3]; omega
      have s4 : sumR (baR fs s g) (k + 1) = sumR (baR fs s g) k + RF := by rw [sumR, e4]
      have bG2 : -3000000000000000000 ≤ -sumR (baG fs s g) k ∧ -sumR (baG fs s g) k ≤ 3000000000000000000 := by omega
      have S1 := Lib.hid s1
      have S2 := Lib.hid s2
      have S3 := Lib.hid s3
      have S4 := Lib.hid s4
      obtain ⟨K0, hK0⟩ : ∃ x, sumR (baK fs s g) k = x := ⟨_, rfl⟩
      obtain ⟨S0, hS0⟩ : ∃ x, sumR (baS fs s g) k = x := ⟨_, rfl⟩
      obtain ⟨G0, hG0⟩ : ∃ x, -sumR (baG fs s g) k = x := ⟨_, rfl⟩
      obtain ⟨R0, hR0⟩ : ∃ x, sumR (baR fs s g) k = x := ⟨_, rfl⟩
      rw [hK0] at hI bK
      rw [hS0] at hI bS
      rw [hG0] at hI bG2
      rw [hR0] at hI bR
      have T1 := Lib.hid (s1.trans (by rw [hK0]))
      have T2 := Lib.hid (s2.trans (by rw [hS0]))
      have T3 := Lib.hid (s3.trans (by rw [hG0]))
      have T4 := Lib.hid (s4.trans (by rw [hR0]))
      clear e1 e2 e3 e4 s1 s2 s3 s4 bG hK0 hS0 hG0 hR0 S1 S2 S3 S4
      -- the rows at w
      obtain ⟨fb, fo, rfl, hcf⟩ := h1.row.at_ (by omega)
      obtain ⟨z0, z1, z2⟩ := hcf k hlt
      obtain ⟨d0, -, -⟩ := h1.fl k hkl
      obtain ⟨gb1, o1, rfl, hc1⟩ := v1.at_ (by omega)
      obtain ⟨gb2, o2, rfl, hc2⟩ := v2.at_ (by omega)
      obtain ⟨gb3, o3, rfl, hc3⟩ := vp.at_ (by omega)
      obtain ⟨gb4, o4, rfl, hc4⟩ := vx.at_ (by omega)
      have r1 := hc1 k hlt
      have r2 := hc2 k hlt
      have r3 := hc3 k hlt
      have r4 := hc4 k hlt
      rw [psF_get _ hlt] at r3
      have hnx : (nxts fs s g)[k]?.getD 0 = nxS fs s g k := by simp [nxts, hkl]
      rw [hnx] at r4
      have hps : psA (frS fs s) n k = baP fs s k := by rw [baP, HN.out]
      rw [hps] at r3
      obtain ⟨rr, hrr⟩ : ∃ rr, raw[k]?.getD flr0 = rr := ⟨_, rfl⟩
      obtain ⟨x0, x1, ⟨u1, u2, u3⟩⟩ := rr
      rw [hrr] at z0 z1 z2 d0
      dsimp only [hv] at z0 z1 z2 d0
      have hmm : baM fs k = x0 := d0.symm
      rw [hmm] at hF
      obtain ⟨X, hX⟩ : ∃ x, nxS fs s g k = x := ⟨_, rfl⟩
      obtain ⟨NW, hNW⟩ : ∃ x, s.1[k]?.getD 0 = x := ⟨_, rfl⟩
      obtain ⟨BF, hBF⟩ : ∃ x, s.2.1[k]?.getD 0 = x := ⟨_, rfl⟩
      obtain ⟨P, hP⟩ : ∃ x, baP fs s k = x := ⟨_, rfl⟩
      rw [hX] at r4 hF
      rw [hNW] at r1 hF
      rw [hBF] at r2 hF
      rw [hP] at r3 hF
      clear hcf hc1 hc2 hc3 hc4 hnx hps hrr hmm d0 hX hNW hBF hP
      obtain ⟨q1', q2', q3', q4', q5', q6', q7', q8', q9', q10', q11', q12', q13', -, q15', bv, bu, bw, bvv, buu, bkf, bsf, bmg, bgf, bfq, bmq, brr, brf, bm, bp, bg, bx, bnw, bbf⟩ := hF
      obtain ⟨bK1, bK2⟩ := bK
      obtain ⟨bS1, bS2⟩ := bS
      obtain ⟨bG1, bG2⟩ := bG2
      obtain ⟨bR1, bR2⟩ := bR
      have hi1 : (k : Int) < (n : Int) := by omega
      have hi0 : (0 : Int) ≤ (k : Int) := by omega
      have hB := hI.bel
      have zz0 := cell_keep z0 hB
      have zz1 := cell_keep z1 hB
      have zz2 := cell_keep z2 hB
      have BA : Below wr.heap.size wr (wr.alloc (.cells #[.int .i64 x0, .int .i64 x1, .slice u1 u2 u3] 130)) := (Below.refl _ _).alloc (Nat.le_refl _) _
      have y5 := alloc_new wr (.cells #[.int .i64 x0, .int .i64 x1, .slice u1 u2 u3] 130)
      go_wp2_with fail
      obtain ⟨p5, hp5⟩ : ∃ p, wr.heap.size = p := ⟨_, rfl⟩
      have hne : p5 ≠ w.heap.size + 1 := by have := blk_lt hI.t3; omega
      rw [hp5] at y5 ⊢
      refine Calmly.wp_region_mix 34 (.fl 0 <| .fl 1 <| .fl 2 <| .fl 3 <| .fl 4 <| .fl 5 <| .fl 6 <| .fl 7 <| .fl 8 <| .fl 9 <| .fl 10 <| .fl 11 <| .fl 12 <| .fl 13 <| .fl 14 <| .fl 15 <| .fl 16 <| .fl 17 <| .fl 18 <| .fl 19 <| .fl 20 <| .fl 21 <| .fl 22 <| .fl 23 <| .fl 24 <| .fl 25 <| .fl 26 <| .fl 27 <| .fl 28 <| .fl 29 <| .fl 30 <| .fl 31 <| .fl 32 <| .fl 33 <| .tail [34]) (by kernel_rfl) (by kernel_rfl) ?_
      have hIV := (hI.keep BA).keep ((Below.refl _ _).drew)
      replace y5 := blk_keep y5 ((Below.refl _ _).drew)
      clear BA hI hB zz0 zz1 zz2
      generalize World.drew _ = V5 at *
      have hBV := hIV.bel
      have hxV := blk_keep hx hBV
      have cb1 := cell_block hxV 1
      have cb2 := cell_block hxV 2
      have cb6 := cell_block hxV 6
      have w1' := cell_keep r1 hBV
      have w2' := cell_keep r2 hBV
      have w3' := cell_keep r3 hBV
      have w4' := cell_keep r4 hBV
      have c50 := cell_block y5 0
      have c3 := cell_block hIV.t3 0
      have n3 := frozen_block hIV.t3 0
      have hk := Below.refl V5.heap.size V5
      go_wp2_with (first | ((with_reducible refine Calmly.is_fl ?_); refine Calmly.mix_fl rfl ?_ (fun _ _ => ?_); (first | exact .move _ | exact .load _ _ | exact .fieldAddr _ _ _ (by kernel_rfl) | exact .assign _ | exact .binOp _ _ _ _ _ rfl | exact .indexAddr _ _ _ | exact .len _ _ (by kernel_rfl) | exact .field _ _ _ | exact .extract _ _ | exact .pick _ _ _ | exact .build _ _ | exact .slice _ _ _ _ _ | exact .unOp _ _ _ rfl | exact .index _ _ _ | exact .max _ _ _ rfl rfl | exact .min _ _ _ rfl rfl | exact .nilCheck _ _ rfl)) | ((with_reducible refine Calmly.is_gl ?_); refine Calmly.mix_gl rfl rfl rfl ?_; first | ((first | with_reducible refine Calmly.gl_tt ?_ (fun _ _ => ?_) | with_reducible refine Calmly.gl_ff ?_ (fun _ _ => ?_)); (first | exact .move _ | exact .load _ _ | exact .fieldAddr _ _ _ (by kernel_rfl) | exact .assign _ | exact .binOp _ _ _ _ _ rfl | exact .indexAddr _ _ _ | exact .len _ _ (by kernel_rfl) | exact .field _ _ _ | exact .extract _ _ | exact .pick _ _ _ | exact .build _ _ | exact .slice _ _ _ _ _ | exact .unOp _ _ _ rfl | exact .index _ _ _ | exact .max _ _ _ rfl rfl | exact .min _ _ _ rfl rfl | exact .nilCheck _ _ rfl)) | with_reducible refine Calmly.gl_tf (fun _ _ => ?_) | with_reducible refine Calmly.gl_ft (fun _ _ => ?_)) | ((with_reducible refine Calmly.is_eff ?_); refine Calmly.mix_eff rfl (fun _ _ => ?_)) | ((with_reducible refine Calmly.is_gf ?_); refine Calmly.mix_gf rfl rfl rfl ?_; first | with_reducible refine Calmly.gf_tt (fun _ _ => ?_) | with_reducible refine Calmly.gf_ff (fun _ _ => ?_) | with_reducible refine Calmly.gf_tf (kept_of hk) (fun _ _ => ?_) | with_reducible refine Calmly.gf_ft (kept_of hk) (fun _ _ => ?_)) | ((with_reducible refine Calmly.is_tail ?_); first | refine Calmly.mix_tail_nil ?_ | refine Calmly.mix_tail rfl (fun _ _ => ?_)) | ((with_reducible refine Calmly.is_kept ?_); refine ⟨kept_of hk, ?_⟩) | (with_reducible refine Calmly.mix_alt ?_ ?_))
      clear hk
      clear hBV hxV cb1 cb2 cb6 w1' w2' w3' w4' c3 n3 c50
      replace hIV := hIV.set0 (K0 + KF)
      replace y5 : (V5.setCell ⟨w.heap.size + 1, 0, none⟩ (.int .i64 (K0 + KF))).heap[p5]? = _ := (Below.heap_setCell _ _ _ _ hne).trans y5
      refine Calmly.wp_region_mix 11 (.fl 0 <| .fl 1 <| .fl 2 <| .fl 3 <| .fl 4 <| .fl 5 <| .fl 6 <| .fl 7 <| .fl 8 <| .fl 9 <| .fl 10 <| .tail [11, 12, 13]) (by kernel_rfl) (by kernel_rfl) ?_
      replace hIV := hIV.keep ((Below.refl _ _).drew)
      replace y5 := blk_keep y5 ((Below.refl _ _).drew)
      generalize World.drew _ = V8 at *
      have hBV := hIV.bel
      have hxV := blk_keep hx hBV
      have cb5 := cell_block hxV 5
      have w1' := cell_keep r1 hBV
      have w2' := cell_keep r2 hBV
      have w3' := cell_keep r3 hBV
      have w4' := cell_keep r4 hBV
      have c50 := cell_block y5 0
      have c3 := cell_block hIV.t3 1
      have n3 := frozen_block hIV.t3 1
      have hk := Below.refl V8.heap.size V8
      go_wp2_with (first | ((with_reducible refine Calmly.is_fl ?_); refine Calmly.mix_fl rfl ?_ (fun _ _ => ?_); (first | exact .move _ | exact .load _ _ | exact .fieldAddr _ _ _ (by kernel_rfl) | exact .assign _ | exact .binOp _ _ _ _ _ rfl | exact .indexAddr _ _ _ | exact .len _ _ (by kernel_rfl) | exact .field _ _ _ | exact .extract _ _ | exact .pick _ _ _ | exact .build _ _ | exact .slice _ _ _ _ _ | exact .unOp _ _ _ rfl | exact .index _ _ _ | exact .max _ _ _ rfl rfl | exact .min _ _ _ rfl rfl | exact .nilCheck _ _ rfl)) | ((with_reducible refine Calmly.is_gl ?_); refine Calmly.mix_gl rfl rfl rfl ?_; first | ((first | with_reducible refine Calmly.gl_tt ?_ (fun _ _ => ?_) | with_reducible refine Calmly.gl_ff ?_ (fun _ _ => ?_)); (first | exact .move _ | exact .load _ _ | exact .fieldAddr _ _ _ (by kernel_rfl) | exact .assign _ | exact .binOp _ _ _ _ _ rfl | exact .indexAddr _ _ _ | exact .len _ _ (by kernel_rfl) | exact .field _ _ _ | exact .extract _ _ | exact .pick _ _ _ | exact .build _ _ | exact .slice _ _ _ _ _ | exact .unOp _ _ _ rfl | exact .index _ _ _ | exact .max _ _ _ rfl rfl | exact .min _ _ _ rfl rfl | exact .nilCheck _ _ rfl)) | with_reducible refine Calmly.gl_tf (fun _ _ => ?_) | with_reducible refine Calmly.gl_ft (fun _ _ => ?_)) | ((with_reducible refine Calmly.is_eff ?_); refine Calmly.mix_eff rfl (fun _ _ => ?_)) | ((with_reducible refine Calmly.is_gf ?_); refine Calmly.mix_gf rfl rfl rfl ?_; first | with_reducible refine Calmly.gf_tt (fun _ _ => ?_) | with_reducible refine Calmly.gf_ff (fun _ _ => ?_) | with_reducible refine Calmly.gf_tf (kept_of hk) (fun _ _ => ?_) | with_reducible refine Calmly.gf_ft (kept_of hk) (fun _ _ => ?_)) | ((with_reducible refine Calmly.is_tail ?_); first | refine Calmly.mix_tail_nil ?_ | refine Calmly.mix_tail rfl (fun _ _ => ?_)) | ((with_reducible refine Calmly.is_kept ?_); refine ⟨kept_of hk, ?_⟩) | (with_reducible refine Calmly.mix_alt ?_ ?_))
      clear hk
      clear hBV hxV cb5 w1' w2' w3' w4' c3 n3 c50
      replace hIV := hIV.set1 (S0 + SF)
      replace y5 : (V8.setCell ⟨w.heap.size + 1, 1, none⟩ (.int .i64 (S0 + SF))).heap[p5]? = _ := (Below.heap_setCell _ _ _ _ hne).trans y5
      refine Calmly.wp_region_mix 11 (.fl 0 <| .fl 1 <| .fl 2 <| .fl 3 <| .fl 4 <| .fl 5 <| .fl 6 <| .fl 7 <| .fl 8 <| .fl 9 <| .fl 10 <| .tail [11, 12, 13]) (by kernel_rfl) (by kernel_rfl) ?_
      replace hIV := hIV.keep ((Below.refl _ _).drew)
      replace y5 := blk_keep y5 ((Below.refl _ _).drew)
      generalize World.drew _ = V9 at *
      have hBV := hIV.bel
      have hxV := blk_keep hx hBV
      have cb4 := cell_block hxV 4
      have w1' := cell_keep r1 hBV
      have w2' := cell_keep r2 hBV
      have w3' := cell_keep r3 hBV
      have w4' := cell_keep r4 hBV
      have c50 := cell_block y5 0
      have c3 := cell_block hIV.t3 2
      have n3 := frozen_block hIV.t3 2
      have hk := Below.refl V9.heap.size V9
      go_wp2_with (first | ((with_reducible refine Calmly.is_fl ?_); refine Calmly.mix_fl rfl ?_ (fun _ _ => ?_); (first | exact .move _ | exact .load _ _ | exact .fieldAddr _ _ _ (by kernel_rfl) | exact .assign _ | exact .binOp _ _ _ _ _ rfl | exact .indexAddr _ _ _ | exact .len _ _ (by kernel_rfl) | exact .field _ _ _ | exact .extract _ _ | exact .pick _ _ _ | exact .build _ _ | exact .slice _ _ _ _ _ | exact .unOp _ _ _ rfl | exact .index _ _ _ | exact .max _ _ _ rfl rfl | exact .min _ _ _ rfl rfl | exact .nilCheck _ _ rfl)) | ((with_reducible refine Calmly.is_gl ?_); refine Calmly.mix_gl rfl rfl rfl ?_; first | ((first | with_reducible refine Calmly.gl_tt ?_ (fun _ _ => ?_) | with_reducible refine Calmly.gl_ff ?_ (fun _ _ => ?_)); (first | exact .move _ | exact .load _ _ | exact .fieldAddr _ _ _ (by kernel_rfl) | exact .assign _ | exact .binOp _ _ _ _ _ rfl | exact .indexAddr _ _ _ | exact .len _ _ (by kernel_rfl) | exact .field _ _ _ | exact .extract _ _ | exact .pick _ _ _ | exact .build _ _ | exact .slice _ _ _ _ _ | exact .unOp _ _ _ rfl | exact .index _ _ _ | exact .max _ _ _ rfl rfl | exact .min _ _ _ rfl rfl | exact .nilCheck _ _ rfl)) | with_reducible refine Calmly.gl_tf (fun _ _ => ?_) | with_reducible refine Calmly.gl_ft (fun _ _ => ?_)) | ((with_reducible refine Calmly.is_eff ?_); refine Calmly.mix_eff rfl (fun _ _ => ?_)) | ((with_reducible refine Calmly.is_gf ?_); refine Calmly.mix_gf rfl rfl rfl ?_; first | with_reducible refine Calmly.gf_tt (fun _ _ => ?_) | with_reducible refine Calmly.gf_ff (fun _ _ => ?_) | with_reducible refine Calmly.gf_tf (kept_of hk) (fun _ _ => ?_) | with_reducible refine Calmly.gf_ft (kept_of hk) (fun _ _ => ?_)) | ((with_reducible refine Calmly.is_tail ?_); first | refine Calmly.mix_tail_nil ?_ | refine Calmly.mix_tail rfl (fun _ _ => ?_)) | ((with_reducible refine Calmly.is_kept ?_); refine ⟨kept_of hk, ?_⟩) | (with_reducible refine Calmly.mix_alt ?_ ?_))
      clear hk
      clear hBV hxV cb4 w1' w2' w3' w4' c3 n3 c50
      replace hIV := hIV.set2 (G0 - GF)
      replace y5 : (V9.setCell ⟨w.heap.size + 1, 2, none⟩ (.int .i64 (G0 - GF))).heap[p5]? = _ := (Below.heap_setCell _ _ _ _ hne).trans y5
      refine Calmly.wp_region_mix 26 (.fl 0 <| .fl 1 <| .fl 2 <| .fl 3 <| .fl 4 <| .fl 5 <| .fl 6 <| .fl 7 <| .fl 8 <| .fl 9 <| .fl 10 <| .fl 11 <| .fl 12 <| .fl 13 <| .fl 14 <| .fl 15 <| .fl 16 <| .fl 17 <| .fl 18 <| .fl 19 <| .fl 23 <| .eff 20 <| .fl 21 <| .fl 22 <| .fl 24 <| .fl 25 <| .tail [26, 27]) (by kernel_rfl) (by kernel_rfl) ?_
      replace hIV := hIV.keep ((Below.refl _ _).drew)
      replace y5 := blk_keep y5 ((Below.refl _ _).drew)
      generalize World.drew _ = V10 at *
      have hBV := hIV.bel
      have hxV := blk_keep hx hBV
      have cb5 := cell_block hxV 5
      have w1' := cell_keep r1 hBV
      have w2' := cell_keep r2 hBV
      have w3' := cell_keep r3 hBV
      have w4' := cell_keep r4 hBV
      have c50 := cell_block y5 0
      have c3 := cell_block hIV.t3 3
      have n3 := frozen_block hIV.t3 3
      have hk := Below.refl V10.heap.size V10
      go_wp2_with (first | ((with_reducible refine Calmly.is_fl ?_); refine Calmly.mix_fl rfl ?_ (fun _ _ => ?_); (first | exact .move _ | exact .load _ _ | exact .fieldAddr _ _ _ (by kernel_rfl) | exact .assign _ | exact .binOp _ _ _ _ _ rfl | exact .indexAddr _ _ _ | exact .len _ _ (by kernel_rfl) | exact .field _ _ _ | exact .extract _ _ | exact .pick _ _ _ | exact .build _ _ | exact .slice _ _ _ _ _ | exact .unOp _ _ _ rfl | exact .index _ _ _ | exact .max _ _ _ rfl rfl | exact .min _ _ _ rfl rfl | exact .nilCheck _ _ rfl)) | ((with_reducible refine Calmly.is_gl ?_); refine Calmly.mix_gl rfl rfl rfl ?_; first | ((first | with_reducible refine Calmly.gl_tt ?_ (fun _ _ => ?_) | with_reducible refine Calmly.gl_ff ?_ (fun _ _ => ?_)); (first | exact .move _ | exact .load _ _ | exact .fieldAddr _ _ _ (by kernel_rfl) | exact .assign _ | exact .binOp _ _ _ _ _ rfl | exact .indexAddr _ _ _ | exact .len _ _ (by kernel_rfl) | exact .field _ _ _ | exact .extract _ _ | exact .pick _ _ _ | exact .build _ _ | exact .slice _ _ _ _ _ | exact .unOp _ _ _ rfl | exact .index _ _ _ | exact .max _ _ _ rfl rfl | exact .min _ _ _ rfl rfl | exact .nilCheck _ _ rfl)) | with_reducible refine Calmly.gl_tf (fun _ _ => ?_) | with_reducible refine Calmly.gl_ft (fun _ _ => ?_)) | ((with_reducible refine Calmly.is_eff ?_); refine Calmly.mix_eff rfl (fun _ _ => ?_)) | ((with_reducible refine Calmly.is_gf ?_); refine Calmly.mix_gf rfl rfl rfl ?_; first | with_reducible refine Calmly.gf_tt (fun _ _ => ?_) | with_reducible refine Calmly.gf_ff (fun _ _ => ?_) | with_reducible refine Calmly.gf_tf (kept_of hk) (fun _ _ => ?_) | with_reducible refine Calmly.gf_ft (kept_of hk) (fun _ _ => ?_)) | ((with_reducible refine Calmly.is_tail ?_); first | refine Calmly.mix_tail_nil ?_ | refine Calmly.mix_tail rfl (fun _ _ => ?_)) | ((with_reducible refine Calmly.is_kept ?_); refine ⟨kept_of hk, ?_⟩) | (with_reducible refine Calmly.mix_alt ?_ ?_))
      refine (dFloor_any P x0 _ (by omega) (by omega) (by omega) (by omega)).mono ?_
      rintro e w5 ⟨rfl, rfl⟩
      rw [q11']
      dsimp only
      go_wp2_with (first | ((with_reducible refine Calmly.is_fl ?_); refine Calmly.mix_fl rfl ?_ (fun _ _ => ?_); (first | exact .move _ | exact .load _ _ | exact .fieldAddr _ _ _ (by kernel_rfl) | exact .assign _ | exact .binOp _ _ _ _ _ rfl | exact .indexAddr _ _ _ | exact .len _ _ (by kernel_rfl) | exact .field _ _ _ | exact .extract _ _ | exact .pick _ _ _ | exact .build _ _ | exact .slice _ _ _ _ _ | exact .unOp _ _ _ rfl | exact .index _ _ _ | exact .max _ _ _ rfl rfl | exact .min _ _ _ rfl rfl | exact .nilCheck _ _ rfl)) | ((with_reducible refine Calmly.is_gl ?_); refine Calmly.mix_gl rfl rfl rfl ?_; first | ((first | with_reducible refine Calmly.gl_tt ?_ (fun _ _ => ?_) | with_reducible refine Calmly.gl_ff ?_ (fun _ _ => ?_)); (first | exact .move _ | exact .load _ _ | exact .fieldAddr _ _ _ (by kernel_rfl) | exact .assign _ | exact .binOp _ _ _ _ _ rfl | exact .indexAddr _ _ _ | exact .len _ _ (by kernel_rfl) | exact .field _ _ _ | exact .extract _ _ | exact .pick _ _ _ | exact .build _ _ | exact .slice _ _ _ _ _ | exact .unOp _ _ _ rfl | exact .index _ _ _ | exact .max _ _ _ rfl rfl | exact .min _ _ _ rfl rfl | exact .nilCheck _ _ rfl)) | with_reducible refine Calmly.gl_tf (fun _ _ => ?_) | with_reducible refine Calmly.gl_ft (fun _ _ => ?_)) | ((with_reducible refine Calmly.is_eff ?_); refine Calmly.mix_eff rfl (fun _ _ => ?_)) | ((with_reducible refine Calmly.is_gf ?_); refine Calmly.mix_gf rfl rfl rfl ?_; first | with_reducible refine Calmly.gf_tt (fun _ _ => ?_) | with_reducible refine Calmly.gf_ff (fun _ _ => ?_) | with_reducible refine Calmly.gf_tf (kept_of hk) (fun _ _ => ?_) | with_reducible refine Calmly.gf_ft (kept_of hk) (fun _ _ => ?_)) | ((with_reducible refine Calmly.is_tail ?_); first | refine Calmly.mix_tail_nil ?_ | refine Calmly.mix_tail rfl (fun _ _ => ?_)) | ((with_reducible refine Calmly.is_kept ?_); refine ⟨kept_of hk, ?_⟩) | (with_reducible refine Calmly.mix_alt ?_ ?_))
      go_roundw
      case rel =>
        refine ⟨k + 1, by omega, by go_num, ?_⟩
        rw [T1.out, T2.out, T3.out, T4.out]
        exact hIV.set3 (R0 + RF)
      case measure => simp [intOf]; omega
    · have hle : (n : Int) ≤ (k : Int) := by omega
      obtain rfl : n = k := by omega
      have t30 := cell_block hI.t3 0
      have t31 := cell_block hI.t3 1
      have t32 := cell_block hI.t3 2
      have t33 := cell_block hI.t3 3
      have t20 := cell_block hI.t2 0
      have t21 := cell_block hI.t2 1
      have t22 := cell_block hI.t2 2
      have t23 := cell_block hI.t2 3
      have n20 := frozen_block hI.t2 0
      have n21 := frozen_block hI.t2 1
      have n22 := frozen_block hI.t2 2
      have n23 := frozen_block hI.t2 3
      obtain ⟨K0, hK0⟩ : ∃ x, sumR (baK fs s g) n = x := ⟨_, rfl⟩
      obtain ⟨S0, hS0⟩ : ∃ x, sumR (baS fs s g) n = x := ⟨_, rfl⟩
      obtain ⟨G0, hG0⟩ : ∃ x, -sumR (baG fs s g) n = x := ⟨_, rfl⟩
      obtain ⟨R0, hR0⟩ : ∃ x, sumR (baR fs s g) n = x := ⟨_, rfl⟩
      rw [hK0, hS0, hG0, hR0] at hI
      rw [hK0] at t30
      rw [hS0] at t31
      rw [hG0] at t32
      rw [hR0] at t33
      have HK0 := Lib.hid hK0
      have HS0 := Lib.hid hS0
      have HG0 := Lib.hid hG0
      have HR0 := Lib.hid hR0
      clear hK0 hS0 hG0 hR0
      go_wp2_with fail
      have q0 := setBlk (setBlk (setBlk (setBlk hI.t2 0 (.int .i64 K0)) 1 (.int .i64 S0)) 2 (.int .i64 G0)) 3 (.int .i64 R0)
      simp at q0
      have e0 := cell_block q0 0
      have e1 := cell_block q0 1
      have e2 := cell_block q0 2
      have e3 := cell_block q0 3
      have B4 := (((hI.bel.setCell (p := ⟨w.heap.size, 0, none⟩) (Nat.le_refl _) (.int .i64 K0)).setCell (p := ⟨w.heap.size, 1, none⟩) (Nat.le_refl _) (.int .i64 S0)).setCell (p := ⟨w.heap.size, 2, none⟩) (Nat.le_refl _) (.int .i64 G0)).setCell (p := ⟨w.heap.size, 3, none⟩) (Nat.le_refl _) (.int .i64 R0)
      exact bodyPost_ret (v := .agg #[.int .i64 K0, .int .i64 S0, .int .i64 G0, .int .i64 R0]) (by simp [results, Try.results119, go_sem, e0, e1, e2, e3]) rfl ⟨by rw [HK0.out, HS0.out, HG0.out, HR0.out], B4⟩
end Go.Proofs.Ytaiikekgckjdeaa

namespace Go.Proofs.Ytaiikekgckjdeaa
open Go.RowKit
open Calmly (Kept)
theorem stErr_plc2 {fs : List Fl} {s : St} {i : Nat} (h : stErr fs s i = 0) : plc (s.2.1[i]?.getD 0) = true := by
  unfold stErr at h
  split at h
  · rename_i hh
    exact hh.2
  · cases h
theorem stf_bd {fs : List Fl} {s : St} (hf : (frmE fs).2 = 0) (h : (stfE fs s).2 = 0) : (∀ i : Nat, -10000 ≤ s.1[i]?.getD 0 ∧ s.1[i]?.getD 0 ≤ 10000) ∧ (∀ i : Nat, -10000 ≤ s.2.1[i]?.getD 0 ∧ s.2.1[i]?.getD 0 ≤ 10000) := by
  obtain ⟨ok, hall⟩ := stf_ok hf h
  refine ⟨fun i => ?_, fun i => ?_⟩
  · rcases Nat.lt_or_ge i fs.length with hi | hi
    · exact plc_ok (stErr_plc (hall i hi))
    · rw [List.getElem?_eq_none (by have := ok.now; omega)]
      simp
  · rcases Nat.lt_or_ge i fs.length with hi | hi
    · exact plc_ok (stErr_plc2 (hall i hi))
    · rw [List.getElem?_eq_none (by have := ok.bef; omega)]
      simp
/-- The balance of a step, zero if there is an error. -/
def bal4 (fs : List Fl) (s : St) (g : Int) : Int × Int × Int × Int := if opsE fs s g = 0 then (sumR (baK fs s g) fs.length, sumR (baS fs s g) fs.length, -sumR (baG fs s g) fs.length, sumR (baR fs s g) fs.length) else (0, 0, 0, 0)
set_option maxRecDepth 100000 in
set_option maxHeartbeats 4000000 in
theorem BalanceOf_any (a a1 a2 a3 : Option Addr) (n c n1 c1 n2 c2 n3 c3 : Nat) (raw : List FlR) (fs : List Fl) (s : St) (g : Int) (w : World) (h1 : FrV w a n c raw fs) (h2 : StV w ((a1, n1, c1), (a2, n2, c2), (a3, n3, c3)) s) :
    Calls Try.prog 58 #[.agg #[.slice a n c], .agg #[.slice a1 n1 c1, .slice a2 n2 c2, .slice a3 n3 c3], .int .i64 g] w fun e w' => e = .returned (.tuple #[.agg #[.int .i64 (bal4 fs s g).1, .int .i64 (bal4 fs s g).2.1, .int .i64 (bal4 fs s g).2.2.1, .int .i64 (bal4 fs s g).2.2.2], .int .i64 (opsE fs s g)]) ∧ Below w.heap.size w w' := by
  obtain ⟨E, hE⟩ : ∃ x, opsE fs s g = x := ⟨_, rfl⟩
  obtain ⟨⟨B1, B2, B3, B4⟩, hB⟩ : ∃ x, bal4 fs s g = x := ⟨_, rfl⟩
  have hB2 : (if E = 0 then (sumR (baK fs s g) fs.length, sumR (baS fs s g) fs.length, -sumR (baG fs s g) fs.length, sumR (baR fs s g) fs.length) else (0, 0, 0, 0)) = (B1, B2, B3, B4) := by rw [← hB, bal4, hE]
  rw [hE, hB]
  dsimp only
  have HE := Lib.hid hE
  have HB := Lib.hid hB2
  clear hE hB hB2
  have y3 := blk_keep (blk_keep (alloc_new w (.cells #[.slice a n c] 24)) ((Below.refl _ _).alloc (Nat.le_refl _) (.cells #[.slice a1 n1 c1, .slice a2 n2 c2, .slice a3 n3 c3] 97))) ((Below.refl _ _).alloc (Nat.le_refl _) (.cells #[.int .i64 0, .int .i64 0, .int .i64 0, .int .i64 0] 103))
  have y4 := blk_keep (alloc_new (w.alloc (.cells #[.slice a n c] 24)) (.cells #[.slice a1 n1 c1, .slice a2 n2 c2, .slice a3 n3 c3] 97)) ((Below.refl _ _).alloc (Nat.le_refl _) (.cells #[.int .i64 0, .int .i64 0, .int .i64 0, .int .i64 0] 103))
  have y6 := alloc_new ((w.alloc (.cells #[.slice a n c] 24)).alloc (.cells #[.slice a1 n1 c1, .slice a2 n2 c2, .slice a3 n3 c3] 97)) (.cells #[.int .i64 0, .int .i64 0, .int .i64 0, .int .i64 0] 103)
  have BW : Below w.heap.size w (((w.alloc (.cells #[.slice a n c] 24)).alloc (.cells #[.slice a1 n1 c1, .slice a2 n2 c2, .slice a3 n3 c3] 97)).alloc (.cells #[.int .i64 0, .int .i64 0, .int .i64 0, .int .i64 0] 103)) := (((Below.refl _ _).alloc (Nat.le_refl _) _).alloc (by simp) _).alloc (by simp; omega) _
  simp only [World.size_alloc] at y4 y6
  have f0 := cell_block y3 0
  have g0 := cell_block y4 0
  have g1 := cell_block y4 1
  have g2 := cell_block y4 2
  go_enter Try.func58, Try.ntmps58
  go_wp2_with fail
  generalize ((w.alloc (.cells #[.slice a n c] 24)).alloc (.cells #[.slice a1 n1 c1, .slice a2 n2 c2, .slice a3 n3 c3] 97)).alloc (.cells #[.int .i64 0, .int .i64 0, .int .i64 0, .int .i64 0] 103) = W at *
  refine (openStep_any a a1 a2 a3 n c n1 c1 n2 c2 n3 c3 raw fs s g W (h1.keep BW) (h2.keep BW)).mono ?_
  rintro e w1 ⟨p, rfl, hp, hs⟩
  rw [HE.out] at hp ⊢
  replace y6 := blk_keep y6 hs
  replace BW := BW.trans (hs.mono BW.size)
  have hF := h1.keep BW
  have hSt := h2.keep BW
  have HP := Lib.hid hp
  clear hs f0 g0 g1 g2 y3 y4 hp
  dsimp only
  have k0 := cell_block y6 0
  have k1 := cell_block y6 1
  have k2 := cell_block y6 2
  have k3 := cell_block y6 3
  have k4 := frozen_block y6 0
  have k5 := frozen_block y6 1
  have k6 := frozen_block y6 2
  have k7 := frozen_block y6 3
  have hw : w.heap.size ≤ w.heap.size + 1 + 1 := by omega
  by_cases hz : E = 0
  case neg =>
    have b1 : (E != 0) = true := by simpa using hz
    have e2 := HB.out
    rw [if_neg hz] at e2
    injection e2 with e3 e4
    injection e4 with e4 e5
    injection e5 with e5 e6
    clear hz HE HP HB
    subst e3 e4 e5 e6
    go_wp2_with fail
    have q0 := setBlk (setBlk (setBlk (setBlk y6 0 (.int .i64 0)) 1 (.int .i64 0)) 2 (.int .i64 0)) 3 (.int .i64 0)
    simp at q0
    have e0 := cell_block q0 0
    have e1 := cell_block q0 1
    have e2 := cell_block q0 2
    have e3 := cell_block q0 3
    have B9 := (((BW.setCell (p := ⟨w.heap.size + 1 + 1, 0, none⟩) hw (.int .i64 0)).setCell (p := ⟨w.heap.size + 1 + 1, 1, none⟩) hw (.int .i64 0)).setCell (p := ⟨w.heap.size + 1 + 1, 2, none⟩) hw (.int .i64 0)).setCell (p := ⟨w.heap.size + 1 + 1, 3, none⟩) hw (.int .i64 0)
    exact bodyPost_ret (v := .tuple #[.agg #[.int .i64 0, .int .i64 0, .int .i64 0, .int .i64 0], .int .i64 E]) (by simp [results, Try.results58, go_sem, e0, e1, e2, e3]) rfl ⟨rfl, B9⟩
  case pos =>
    subst hz
    obtain ⟨hok1, hok2, hok3⟩ := ops_ok HE.out
    have hsta := sta_frm hok3
    have hbd := stf_bd hsta.1 hsta.2
    obtain ⟨b, pa, xa, pc, xc, rfl, e1, e2, e3, hO⟩ := HP.out.ok rfl
    have hn := h1.n_
    have hB4 := HB.out
    rw [if_pos rfl, ← hn] at hB4
    injection hB4 with r3 r4
    injection r4 with r4 r5
    injection r5 with r5 r6
    have R3 := Lib.hid r3
    have R4 := Lib.hid r4
    have R5 := Lib.hid r5
    have R6 := Lib.hid r6
    have HOK1 := Lib.hid hok1
    have HBD := Lib.hid hbd
    have hnow := hSt.now
    have hbef := hSt.bef
    dsimp only at hnow hbef
    subst e1 e2
    have e3' : n3 = n2 := e3
    subst e3'
    clear hok1 hok3 hbd r3 r4 r5 r6 hn hsta HP HB e3
    go_wp2_with fail
    refine (balance_any b a a1 a2 a3 pa xa n3 c c1 c2 c3 pc xc g raw fs s w1 hF hO.blk hnow hbef hO.ps.si hO.nx.si HOK1.out hok2 HBD.out.1 HBD.out.2).mono ?_
    rintro e w7 ⟨rfl, hsB⟩
    rw [R3.out, R4.out, R5.out, R6.out]
    dsimp only
    replace y6 := blk_keep y6 hsB
    have B7 := BW.trans (hsB.mono BW.size)
    clear k0 k1 k2 k3 k4 k5 k6 k7 hO
    have k0 := cell_block y6 0
    have k1 := cell_block y6 1
    have k2 := cell_block y6 2
    have k3 := cell_block y6 3
    have k4 := frozen_block y6 0
    have k5 := frozen_block y6 1
    have k6 := frozen_block y6 2
    have k7 := frozen_block y6 3
    go_wp2_with fail
    have q0 := setBlk (setBlk (setBlk (setBlk y6 0 (.int .i64 B1)) 1 (.int .i64 B2)) 2 (.int .i64 B3)) 3 (.int .i64 B4)
    simp at q0
    have e0 := cell_block q0 0
    have e1 := cell_block q0 1
    have e2 := cell_block q0 2
    have e3 := cell_block q0 3
    have B9 := (((B7.setCell (p := ⟨w.heap.size + 1 + 1, 0, none⟩) hw (.int .i64 B1)).setCell (p := ⟨w.heap.size + 1 + 1, 1, none⟩) hw (.int .i64 B2)).setCell (p := ⟨w.heap.size + 1 + 1, 2, none⟩) hw (.int .i64 B3)).setCell (p := ⟨w.heap.size + 1 + 1, 3, none⟩) hw (.int .i64 B4)
    exact bodyPost_ret (v := .tuple #[.agg #[.int .i64 B1, .int .i64 B2, .int .i64 B3, .int .i64 B4], .int .i64 0]) (by simp [results, Try.results58, go_sem, e0, e1, e2, e3]) rfl ⟨rfl, B9⟩
end Go.Proofs.Ytaiikekgckjdeaa
