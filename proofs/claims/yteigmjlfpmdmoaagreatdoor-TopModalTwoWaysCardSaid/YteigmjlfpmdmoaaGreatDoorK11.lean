/- Contracts of the helpers' package: a number read. Contracts of the helpers' package: a number written. Contracts of chapter 6: the reference's texts. Contracts of chapter 6: the reference's error of decays, copies of decays, how many samples. -/
import Derived.Test.YteigmjlfpmdmoaaGreatDoorK10
import Derived.Laws.IdiomStrings
namespace Go.Proofs.YteigmjlfpmdmoaaGreatDoor
open Go.RowKit
open Calmly (Kept)

theorem numF_plain {l : List UInt8} {d : Nat} (h : l.head? ≠ some 45) : numF l d = if l = [] ∨ d < l.length ∨ (l.head? = some 48 ∧ 1 < l.length) then none else (Lib.decFrom 0 l).map fun (m : Nat) => (m : Int) := by
  unfold numF
  rw [if_neg h]

set_option maxRecDepth 100000 in
set_option maxHeartbeats 4000000 in
theorem Number_any (s : List UInt8) (d : Nat) (w : World) (hd : d ≤ 18) (hs : s.length ≤ 1000000) :
    Calls Tryz.prog 96 #[.string (bs s), .int .i64 (d : Int)] w fun e w' => e = .returned (.tuple #[.int .i64 ((numF s d).getD 0), .bool (numF s d).isSome]) ∧ w = w' := by
  have hz := bs_size s
  have HZ := Lib.hid hz
  rcases Nat.eq_zero_or_pos s.length with h0 | h0
  · have e0 : s = [] := List.length_eq_zero_iff.1 h0
    subst e0
    go_enter Tryz.func96, Tryz.ntmps96
    go_wp2_with fail
    go_ret2
    exact ⟨rfl, rfl⟩
  have p0 : (0 : Int) < ((bs s).size : Int) := by rw [HZ.out]; omega
  have q0 : 0 < (bs s).size := by omega
  have hsb : (bs s).size ≤ 1000000 := by omega
  have g0 := bs_get s 0 h0 q0
  have hh : s.head? = some (s[0]'h0) := by cases s with
    | nil => simp at h0
    | cons a r => rfl
  by_cases ha : (s[0]'h0) = 45
  · have qa : ((((bs s)[0]'q0).toNat : Int) == 45) = true := by rw [g0, ha]; rfl
    obtain ⟨t, ht⟩ : ∃ t, s.tail = t := ⟨_, rfl⟩
    have hst : s = 45 :: t := by cases s with
      | nil => simp at h0
      | cons a r =>
        have ha' : a = 45 := ha
        have ht' : r = t := ht
        rw [ha', ht']
    have hlen : s.length = t.length + 1 := by rw [hst]; rfl
    have hn := numF_cons45 t d
    rw [← hst] at hn
    have HT := Lib.hid hlen
    have hG : ∀ k (h : k < t.length) (h' : 1 + k < s.length), s[1 + k] = t[k] := by
      intro k h h'
      have : s[1 + k]? = t[k]? := by rw [hst, Nat.add_comm, List.getElem?_cons_succ]
      rw [List.getElem?_eq_getElem h', List.getElem?_eq_getElem h] at this
      injection this
    have HG := Lib.hid hG
    have HN0 := Lib.hid hn
    have HST := Lib.hid hst
    clear g0 hh ha hst hn hG ht
    by_cases h2 : t.length = 0
    · have c1 : (((bs s).size : Int) == 1) = true := by rw [hz, beq_iff_eq]; omega
      clear hz hlen
      go_enter Tryz.func96, Tryz.ntmps96
      go_wp2_with fail
      go_ret2
      have e := HN0.out
      rw [if_pos (.inl (List.length_eq_zero_iff.1 h2))] at e
      exact ⟨by rw [e]; rfl, rfl⟩
    have c1 : (((bs s).size : Int) == 1) = false := by rw [hz, beq_eq_false_iff_ne]; omega
    by_cases h3 : d < t.length
    · have c2 : decide ((d : Int) < ((bs s).size : Int) - 1) = true := decide_eq_true (by rw [HZ.out]; omega)
      clear hz hlen
      go_enter Tryz.func96, Tryz.ntmps96
      go_wp2_with fail
      go_ret2
      have e := HN0.out
      rw [if_pos (.inr (.inl h3))] at e
      exact ⟨by rw [e]; rfl, rfl⟩
    have c2 : decide ((d : Int) < ((bs s).size : Int) - 1) = false := decide_eq_false (by rw [HZ.out]; omega)
    have p1 : (1 : Int) < ((bs s).size : Int) := by rw [HZ.out]; omega
    have q1 : 1 < (bs s).size := by omega
    have g1' := bs_get s 1 (by omega) q1
    obtain ⟨t0, t', htt⟩ : ∃ t0 t', t = t0 :: t' := by cases t with
      | nil => simp at h2
      | cons a r => exact ⟨a, r, rfl⟩
    have hs1 : (s[1]'(by omega)) = t0 := by
      have : s[1]? = some t0 := by rw [HST.out, htt]; rfl
      rw [List.getElem?_eq_getElem (by omega)] at this
      injection this
    have hth : t.head? = some t0 := by rw [htt]; rfl
    clear htt
    by_cases h4 : t0 = 48
    · have c3 : ((((bs s)[1]'q1).toNat : Int) == 48) = true := by rw [g1', hs1, h4]; rfl
      clear g1' hs1
      clear hz hlen
      go_enter Tryz.func96, Tryz.ntmps96
      go_wp2_with fail
      go_ret2
      have e := HN0.out
      rw [if_pos (.inr (.inr (by rw [hth, h4])))] at e
      exact ⟨by rw [e]; rfl, rfl⟩
    have c3 : ((((bs s)[1]'q1).toNat : Int) == 48) = false := by
      rw [g1', hs1, beq_eq_false_iff_ne]
      intro h
      exact h4 (UInt8.toNat_inj.1 (by show _ = 48; omega))
    have hF : numF s d = (Lib.decFrom 0 t).map fun (m : Nat) => -(m : Int) := by
      rw [HN0.out, if_neg]
      simp only [not_or, Nat.not_lt]
      refine ⟨fun e => h2 (by rw [e]; rfl), by omega, fun e => ?_⟩
      rw [hth] at e
      injection e with e
      exact h4 e
    have HF := Lib.hid hF
    clear hF g1' hs1 hth h4
    clear hz hlen
    go_enter Tryz.func96, Tryz.ntmps96
    go_wp2_with fail
    go_loop [7, 8] (fun x y => ∃ k acc : Nat, x = .int .i64 (acc : Int) ∧ y = .int .i64 ((1 + k : Nat) : Int) ∧ k ≤ t.length ∧ Lib.decFrom 0 (t.take k) = some acc) (fun _ y => s.length - (intOf y).toNat)
    case atStart => exact ⟨0, 0, rfl, rfl, Nat.zero_le _, rfl⟩
    case round =>
      obtain ⟨k, acc, rfl, rfl, hk, ha⟩ := hrel
      have hacc := Lib.decFrom_lt _ _ _ ha
      have hpow : 10 ^ (t.take k).length ≤ 10 ^ k := Nat.pow_le_pow_right (by decide) (by rw [List.length_take]; omega)
      have HA := Lib.hid ha
      clear ha
      by_cases hlt : k < t.length
      · have hki : 1 + k < s.length := by have := HT.out; omega
        have hkz : 1 + k < (bs s).size := by have := HZ.out; omega
        have h1 : ((1 + k : Nat) : Int) < ((bs s).size : Int) := by omega
        have hg : ((bs s)[1 + k]'hkz).toNat = (t[k]).toNat := (bs_get s _ hki hkz).trans (congrArg UInt8.toNat (HG.out k hlt hki))
        have hp17 : 10 ^ k ≤ 10 ^ 17 := Nat.pow_le_pow_right (by decide) (by have := HT.out; omega)
        have e17 : (10 : Nat) ^ 17 = 100000000000000000 := by decide
        have hac : acc < 100000000000000000 := by omega
        clear hacc hpow hp17 e17
        by_cases hx : 48 ≤ t[k].toNat ∧ t[k].toNat ≤ 57
        · have q1 : (48 : Int) ≤ (((bs s)[1 + k]'hkz).toNat : Int) := by rw [hg]; omega
          have q2 : (((bs s)[1 + k]'hkz).toNat : Int) ≤ 57 := by rw [hg]; omega
          have HX := Lib.hid hx
          have HGG := Lib.hid hg
          clear hx hg
          go_wp2_with fail
          go_round
          case rel =>
            refine ⟨k + 1, acc * 10 + (t[k].toNat - 48), ?_, by go_num, by omega, ?_⟩
            · have := HX.out
              rw [HGG.out]
              go_num
            · refine Lib.decFrom_take t k 0 acc t[k] _ HA.out (by simp [hlt]) ?_
              unfold Lib.digitVal
              rw [if_pos HX.out]
          case measure => simp [intOf]; omega
        · have q1 : decide ((((bs s)[1 + k]'hkz).toNat : Int) < 48) = true ∨ (decide ((((bs s)[1 + k]'hkz).toNat : Int) < 48) = false ∧ decide (57 < (((bs s)[1 + k]'hkz).toNat : Int)) = true) := by
            rw [hg]
            by_cases h48 : t[k].toNat < 48
            · exact .inl (decide_eq_true (by omega))
            · exact .inr ⟨decide_eq_false (by omega), decide_eq_true (by omega)⟩
          have HX := Lib.hid hx
          clear hx hg
          have hnone : Lib.decFrom 0 t = none := by
            cases hd : Lib.decFrom 0 t with
            | none => rfl
            | some m =>
              obtain ⟨d0, hd0⟩ := Lib.digit_of_decFrom t 0 m hd k t[k] (by simp [hlt])
              unfold Lib.digitVal at hd0
              rw [if_neg HX.out] at hd0
              cases hd0
          have HN := Lib.hid hnone
          clear hnone
          rcases q1 with q1 | ⟨q1, q2⟩
          · go_wp2_with fail
            go_ret2
            exact ⟨by rw [HF.out, HN.out]; rfl, rfl⟩
          · go_wp2_with fail
            go_ret2
            exact ⟨by rw [HF.out, HN.out]; rfl, rfl⟩
      · obtain rfl : k = t.length := by omega
        have h1 : ¬ ((1 + t.length : Nat) : Int) < ((bs s).size : Int) := by rw [HZ.out]; have := HT.out; omega
        have hp18 : 10 ^ (t.take t.length).length ≤ 10 ^ 18 := Nat.pow_le_pow_right (by decide) (by rw [List.length_take]; have := HT.out; omega)
        have e18 : (10 : Nat) ^ 18 = 1000000000000000000 := by decide
        have hac2 : acc < 1000000000000000000 := by omega
        clear hp18 e18 hpow hacc
        have he : Lib.decFrom 0 t = some acc := by have := HA.out; rwa [List.take_length] at this
        have HE := Lib.hid he
        clear he
        go_wp2_with fail
        go_ret2
        exact ⟨by rw [HF.out, HE.out]; rfl, rfl⟩
  · have qa : ((((bs s)[0]'q0).toNat : Int) == 45) = false := by
      rw [g0, beq_eq_false_iff_ne]
      intro h
      exact ha (UInt8.toNat_inj.1 (by show _ = 45; omega))
    have hn := numF_plain (l := s) (d := d) (fun e => ha (by rw [hh] at e; injection e))
    obtain ⟨t, ht⟩ : ∃ t, s = t := ⟨_, rfl⟩
    have hlen : s.length = t.length := by rw [ht]
    have HT := Lib.hid hlen
    have hG : ∀ k (h : k < t.length) (h' : k < s.length), s[k] = t[k] := by
      intro k h h'
      have : s[k]? = t[k]? := by rw [ht]
      rw [List.getElem?_eq_getElem h', List.getElem?_eq_getElem h] at this
      injection this
    have HG := Lib.hid hG
    have HN0 := Lib.hid hn
    have HST := Lib.hid ht
    clear hn hG ht ha
    have c1 : (((bs s).size : Int) == 0) = false := by rw [hz, beq_eq_false_iff_ne]; omega
    by_cases h3 : d < s.length
    · have c2 : d < (bs s).size := by omega
      clear g0 hh
      clear hz hlen
      go_enter Tryz.func96, Tryz.ntmps96
      go_wp2_with fail
      go_ret2
      have e := HN0.out
      rw [if_pos (.inr (.inl h3))] at e
      exact ⟨by rw [e]; rfl, rfl⟩
    have c2 : ¬ d < (bs s).size := by omega
    by_cases h4 : (s[0]'h0) = 48
    · have c3 : ((((bs s)[0]'q0).toNat : Int) == 48) = true := by rw [g0, h4]; rfl
      by_cases h5 : 1 < s.length
      · have c4 : 1 < (bs s).size := by omega
        have e := HN0.out
        rw [if_pos (.inr (.inr ⟨by rw [hh, h4], h5⟩))] at e
        have HE := Lib.hid e
        clear e g0 hh h4
        clear hz hlen
        go_enter Tryz.func96, Tryz.ntmps96
        go_wp2_with fail
        go_ret2
        exact ⟨by rw [HE.out]; rfl, rfl⟩
      have c4 : ¬ 1 < (bs s).size := by omega
      have hF : numF s d = (Lib.decFrom 0 t).map fun (m : Nat) => (m : Int) := by
        rw [HN0.out, if_neg, ← HST.out]
        simp only [not_or, Nat.not_lt]
        exact ⟨fun e => by rw [e] at h0; simp at h0, by omega, fun e => h5 e.2⟩
      have HF := Lib.hid hF
      clear hF g0 hh h4
      clear hz hlen
      go_enter Tryz.func96, Tryz.ntmps96
      go_wp2_with fail
      go_loop [7, 8] (fun x y => ∃ k acc : Nat, x = .int .i64 (acc : Int) ∧ y = .int .i64 ((k : Nat) : Int) ∧ k ≤ t.length ∧ Lib.decFrom 0 (t.take k) = some acc) (fun _ y => s.length - (intOf y).toNat)
      case atStart => exact ⟨0, 0, rfl, rfl, Nat.zero_le _, rfl⟩
      case round =>
        obtain ⟨k, acc, rfl, rfl, hk, ha⟩ := hrel
        have hacc := Lib.decFrom_lt _ _ _ ha
        have hpow : 10 ^ (t.take k).length ≤ 10 ^ k := Nat.pow_le_pow_right (by decide) (by rw [List.length_take]; omega)
        have HA := Lib.hid ha
        clear ha
        by_cases hlt : k < t.length
        · have hki : k < s.length := by have := HT.out; omega
          have hkz : k < (bs s).size := by have := HZ.out; omega
          have h1 : ((k : Nat) : Int) < ((bs s).size : Int) := by omega
          have hg : ((bs s)[k]'hkz).toNat = (t[k]).toNat := (bs_get s _ hki hkz).trans (congrArg UInt8.toNat (HG.out k hlt hki))
          have hp17 : 10 ^ k ≤ 10 ^ 17 := Nat.pow_le_pow_right (by decide) (by have := HT.out; omega)
          have e17 : (10 : Nat) ^ 17 = 100000000000000000 := by decide
          have hac : acc < 100000000000000000 := by omega
          clear hacc hpow hp17 e17
          by_cases hx : 48 ≤ t[k].toNat ∧ t[k].toNat ≤ 57
          · have q1 : (48 : Int) ≤ (((bs s)[k]'hkz).toNat : Int) := by rw [hg]; omega
            have q2 : (((bs s)[k]'hkz).toNat : Int) ≤ 57 := by rw [hg]; omega
            have HX := Lib.hid hx
            have HGG := Lib.hid hg
            clear hx hg
            go_wp2_with fail
            go_round
            case rel =>
              refine ⟨k + 1, acc * 10 + (t[k].toNat - 48), ?_, by go_num, by omega, ?_⟩
              · have := HX.out
                rw [HGG.out]
                go_num
              · refine Lib.decFrom_take t k 0 acc t[k] _ HA.out (by simp [hlt]) ?_
                unfold Lib.digitVal
                rw [if_pos HX.out]
            case measure => simp [intOf]; omega
          · have q1 : decide ((((bs s)[k]'hkz).toNat : Int) < 48) = true ∨ (decide ((((bs s)[k]'hkz).toNat : Int) < 48) = false ∧ decide (57 < (((bs s)[k]'hkz).toNat : Int)) = true) := by
              rw [hg]
              by_cases h48 : t[k].toNat < 48
              · exact .inl (decide_eq_true (by omega))
              · exact .inr ⟨decide_eq_false (by omega), decide_eq_true (by omega)⟩
            have HX := Lib.hid hx
            clear hx hg
            have hnone : Lib.decFrom 0 t = none := by
              cases hd : Lib.decFrom 0 t with
              | none => rfl
              | some m =>
                obtain ⟨d0, hd0⟩ := Lib.digit_of_decFrom t 0 m hd k t[k] (by simp [hlt])
                unfold Lib.digitVal at hd0
                rw [if_neg HX.out] at hd0
                cases hd0
            have HN := Lib.hid hnone
            clear hnone
            rcases q1 with q1 | ⟨q1, q2⟩
            · go_wp2_with fail
              go_ret2
              exact ⟨by rw [HF.out, HN.out]; rfl, rfl⟩
            · go_wp2_with fail
              go_ret2
              exact ⟨by rw [HF.out, HN.out]; rfl, rfl⟩
        · obtain rfl : k = t.length := by omega
          have h1 : ¬ ((t.length : Nat) : Int) < ((bs s).size : Int) := by rw [HZ.out]; have := HT.out; omega
          have hp18 : 10 ^ (t.take t.length).length ≤ 10 ^ 18 := Nat.pow_le_pow_right (by decide) (by rw [List.length_take]; have := HT.out; omega)
          have e18 : (10 : Nat) ^ 18 = 1000000000000000000 := by decide
          have hac2 : acc < 1000000000000000000 := by omega
          clear hp18 e18 hpow hacc
          have he : Lib.decFrom 0 t = some acc := by have := HA.out; rwa [List.take_length] at this
          have HE := Lib.hid he
          clear he
          go_wp2_with fail
          go_ret2
          exact ⟨by rw [HF.out, HE.out]; rfl, rfl⟩
    · have c3 : ((((bs s)[0]'q0).toNat : Int) == 48) = false := by
        rw [g0, beq_eq_false_iff_ne]
        intro h
        exact h4 (UInt8.toNat_inj.1 (by show _ = 48; omega))
      have hF : numF s d = (Lib.decFrom 0 t).map fun (m : Nat) => (m : Int) := by
        rw [HN0.out, if_neg, ← HST.out]
        simp only [not_or, Nat.not_lt]
        exact ⟨fun e => by rw [e] at h0; simp at h0, by omega, fun e => h4 (by have := e.1; rw [hh] at this; injection this)⟩
      have HF := Lib.hid hF
      clear hF g0 hh h4
      clear hz hlen
      go_enter Tryz.func96, Tryz.ntmps96
      go_wp2_with fail
      go_loop [7, 8] (fun x y => ∃ k acc : Nat, x = .int .i64 (acc : Int) ∧ y = .int .i64 ((k : Nat) : Int) ∧ k ≤ t.length ∧ Lib.decFrom 0 (t.take k) = some acc) (fun _ y => s.length - (intOf y).toNat)
      case atStart => exact ⟨0, 0, rfl, rfl, Nat.zero_le _, rfl⟩
      case round =>
        obtain ⟨k, acc, rfl, rfl, hk, ha⟩ := hrel
        have hacc := Lib.decFrom_lt _ _ _ ha
        have hpow : 10 ^ (t.take k).length ≤ 10 ^ k := Nat.pow_le_pow_right (by decide) (by rw [List.length_take]; omega)
        have HA := Lib.hid ha
        clear ha
        by_cases hlt : k < t.length
        · have hki : k < s.length := by have := HT.out; omega
          have hkz : k < (bs s).size := by have := HZ.out; omega
          have h1 : ((k : Nat) : Int) < ((bs s).size : Int) := by omega
          have hg : ((bs s)[k]'hkz).toNat = (t[k]).toNat := (bs_get s _ hki hkz).trans (congrArg UInt8.toNat (HG.out k hlt hki))
          have hp17 : 10 ^ k ≤ 10 ^ 17 := Nat.pow_le_pow_right (by decide) (by have := HT.out; omega)
          have e17 : (10 : Nat) ^ 17 = 100000000000000000 := by decide
          have hac : acc < 100000000000000000 := by omega
          clear hacc hpow hp17 e17
          by_cases hx : 48 ≤ t[k].toNat ∧ t[k].toNat ≤ 57
          · have q1 : (48 : Int) ≤ (((bs s)[k]'hkz).toNat : Int) := by rw [hg]; omega
            have q2 : (((bs s)[k]'hkz).toNat : Int) ≤ 57 := by rw [hg]; omega
            have HX := Lib.hid hx
            have HGG := Lib.hid hg
            clear hx hg
            go_wp2_with fail
            go_round
            case rel =>
              refine ⟨k + 1, acc * 10 + (t[k].toNat - 48), ?_, by go_num, by omega, ?_⟩
              · have := HX.out
                rw [HGG.out]
                go_num
              · refine Lib.decFrom_take t k 0 acc t[k] _ HA.out (by simp [hlt]) ?_
                unfold Lib.digitVal
                rw [if_pos HX.out]
            case measure => simp [intOf]; omega
          · have q1 : decide ((((bs s)[k]'hkz).toNat : Int) < 48) = true ∨ (decide ((((bs s)[k]'hkz).toNat : Int) < 48) = false ∧ decide (57 < (((bs s)[k]'hkz).toNat : Int)) = true) := by
              rw [hg]
              by_cases h48 : t[k].toNat < 48
              · exact .inl (decide_eq_true (by omega))
              · exact .inr ⟨decide_eq_false (by omega), decide_eq_true (by omega)⟩
            have HX := Lib.hid hx
            clear hx hg
            have hnone : Lib.decFrom 0 t = none := by
              cases hd : Lib.decFrom 0 t with
              | none => rfl
              | some m =>
                obtain ⟨d0, hd0⟩ := Lib.digit_of_decFrom t 0 m hd k t[k] (by simp [hlt])
                unfold Lib.digitVal at hd0
                rw [if_neg HX.out] at hd0
                cases hd0
            have HN := Lib.hid hnone
            clear hnone
            rcases q1 with q1 | ⟨q1, q2⟩
            · go_wp2_with fail
              go_ret2
              exact ⟨by rw [HF.out, HN.out]; rfl, rfl⟩
            · go_wp2_with fail
              go_ret2
              exact ⟨by rw [HF.out, HN.out]; rfl, rfl⟩
        · obtain rfl : k = t.length := by omega
          have h1 : ¬ ((t.length : Nat) : Int) < ((bs s).size : Int) := by rw [HZ.out]; have := HT.out; omega
          have hp18 : 10 ^ (t.take t.length).length ≤ 10 ^ 18 := Nat.pow_le_pow_right (by decide) (by rw [List.length_take]; have := HT.out; omega)
          have e18 : (10 : Nat) ^ 18 = 1000000000000000000 := by decide
          have hac2 : acc < 1000000000000000000 := by omega
          clear hp18 e18 hpow hacc
          have he : Lib.decFrom 0 t = some acc := by have := HA.out; rwa [List.take_length] at this
          have HE := Lib.hid he
          clear he
          go_wp2_with fail
          go_ret2
          exact ⟨by rw [HF.out, HE.out]; rfl, rfl⟩
end Go.Proofs.YteigmjlfpmdmoaaGreatDoor

namespace Go.Proofs.YteigmjlfpmdmoaaGreatDoor
open Go.RowKit
open Calmly (Kept)

def decD (m : Nat) : List UInt8 := if m = 0 then [] else Lib.decDigits m
theorem decD_step {m : Nat} (h : m ≠ 0) : decD m = decD (m / 10) ++ [UInt8.ofNat (48 + m % 10)] := by
  unfold decD
  rw [if_neg h]
  by_cases h1 : m < 10
  · rw [if_pos (by omega), Lib.decDigits, dif_pos h1, Nat.mod_eq_of_lt h1]
    rfl
  · rw [if_neg (by omega), Lib.decDigits, dif_neg h1]

set_option maxRecDepth 100000 in
set_option maxHeartbeats 4000000 in
theorem Decimal_any (n : Int) (w : World) (h1 : -9223372036854775808 ≤ n) (h2 : n ≤ 9223372036854775807) :
    Calls Tryz.prog 84 #[.int .i64 n] w fun e w' => e = .returned (.string (bs (Lib.itoa n))) ∧ Below w.heap.size w w' := by
  by_cases h0 : n = 0
  · subst h0
    go_enter Tryz.func84, Tryz.ntmps84
    go_wp2_with fail
    go_ret
    exact ⟨by kernel_rfl, Below.refl _ _⟩
  have z0 : (n == 0) = false := by rw [beq_eq_false_iff_ne]; exact h0
  by_cases hn : n < 0
  · have hn' : decide (n < 0) = true := decide_eq_true hn
    go_enter Tryz.func84, Tryz.ntmps84
    go_wp2_with fail
    go_loopw [0, 3] (fun x y wr => ∃ (m : Int) (t : List UInt8), x = .int .i64 m ∧ y = .string (bs t) ∧ -9223372036854775808 ≤ m ∧ m ≤ 9223372036854775807 ∧ decD m.natAbs ++ t = decD n.natAbs ∧ Below w.heap.size w wr) (fun x _ _ => (intOf x).natAbs)
    case atStart => exact ⟨n, [], rfl, rfl, h1, h2, by simp, Below.refl _ _⟩
    case round =>
      obtain ⟨m, t, rfl, rfl, b1, b2, hd, hb⟩ := hrel
      have hts : (bs t).size ≤ 19 := by
        have e := congrArg List.length hd
        rw [List.length_append] at e
        have : (decD n.natAbs).length ≤ 19 := by
          unfold decD
          rw [if_neg (by omega)]
          exact dec_len 19 _ (by omega) (by omega)
        rw [bs_size]
        omega
      have HD := Lib.hid hd
      clear hd
      by_cases hm : m = 0
      · subst hm
        go_wp2_with fail
        go_ret
        refine ⟨?_, hb⟩
        have := HD.out
        rw [show decD (0 : Int).natAbs = [] from rfl, List.nil_append] at this
        rw [this]
        unfold decD
        rw [if_neg (by omega)]
        rw [itoa_neg' hn]; rfl
      have hm0 : (m == 0) = false := by rw [beq_eq_false_iff_ne]; exact hm
      obtain ⟨r, hr⟩ : ∃ r, m.tmod 10 = r := ⟨_, rfl⟩
      have r1 : r.natAbs = m.natAbs % 10 := by rw [← hr, Int.natAbs_tmod]; rfl
      have r2 : -9 ≤ r ∧ r ≤ 9 := by omega
      obtain ⟨q, hq⟩ : ∃ q, m.tdiv 10 = q := ⟨_, rfl⟩
      have q1 : q.natAbs = m.natAbs / 10 := by rw [← hq, Int.natAbs_tdiv]; rfl
      have q2 : -922337203685477580 ≤ q ∧ q ≤ 922337203685477580 := by omega
      obtain ⟨q3, q4⟩ := q2
      have R1 := Lib.hid r1
      have Q1 := Lib.hid q1
      clear r1 q1
      go_wp2_with fail
      refine (size_any r _ (by omega) (by omega)).mono ?_
      rintro e w1 ⟨rfl, rfl⟩
      obtain ⟨k, hk⟩ : ∃ k, r.natAbs = k := ⟨_, rfl⟩
      have hk9 : k ≤ 9 := by omega
      have HK := Lib.hid hk
      rw [hk]
      clear hk
      obtain ⟨x, hx⟩ : ∃ x, UInt8.ofNat (48 + k) = x := ⟨_, rfl⟩
      have HX := Lib.hid hx
      have hconv : (convert 147 9 (.slice (some ⟨wr.heap.size, 0, none⟩) 1 1)).run Tryz.prog (wr.alloc (.cells #[.int .u8 (48 + (k : Int))] 5)) = .ok (.string (bs [x])) (wr.alloc (.cells #[.int .u8 (48 + (k : Int))] 5)) := by
        refine run_convert_bytes_back _ _ _ 5 ⟨wr.heap.size, 0, none⟩ 1 [x] Tryz.underlying147 Tryz.underlying5 Tryz.underlying9 ?_
        intro j hj
        obtain rfl : j = 0 := by simpa using hj
        have := cell_block (alloc_new wr (.cells #[.int .u8 (48 + (k : Int))] 5)) 0
        rw [show (⟨wr.heap.size, 0, none⟩ : Addr).add 0 = ⟨wr.heap.size, 0, none⟩ from rfl, this]
        rw [← hx]
        simp only [List.getElem_cons_zero, toNat_dig (show k < 10 by omega)]
        rfl
      clear hx
      have hsz1 : (bs [x]).size = 1 := rfl
      go_wp2_with fail
      go_roundw
      case rel =>
        refine ⟨q, x :: t, rfl, ?_, by omega, by omega, ?_, hb.trans ((Below.refl _ _).alloc hb.size _)⟩
        · show Value.string (bs [x] ++ bs t) = _
          rw [bs_app]
          rfl
        · rw [Q1.out, ← HD.out, decD_step (show m.natAbs ≠ 0 by omega), ← R1.out, HK.out, HX.out]
          simp
      case measure => have := Q1.out; simp [intOf]; omega
  · have hn' : decide (n < 0) = false := decide_eq_false hn
    go_enter Tryz.func84, Tryz.ntmps84
    go_wp2_with fail
    go_loopw [0, 3] (fun x y wr => ∃ (m : Int) (t : List UInt8), x = .int .i64 m ∧ y = .string (bs t) ∧ -9223372036854775808 ≤ m ∧ m ≤ 9223372036854775807 ∧ decD m.natAbs ++ t = decD n.natAbs ∧ Below w.heap.size w wr) (fun x _ _ => (intOf x).natAbs)
    case atStart => exact ⟨n, [], rfl, rfl, h1, h2, by simp, Below.refl _ _⟩
    case round =>
      obtain ⟨m, t, rfl, rfl, b1, b2, hd, hb⟩ := hrel
      have hts : (bs t).size ≤ 19 := by
        have e := congrArg List.length hd
        rw [List.length_append] at e
        have : (decD n.natAbs).length ≤ 19 := by
          unfold decD
          rw [if_neg (by omega)]
          exact dec_len 19 _ (by omega) (by omega)
        rw [bs_size]
        omega
      have HD := Lib.hid hd
      clear hd
      by_cases hm : m = 0
      · subst hm
        go_wp2_with fail
        go_ret
        refine ⟨?_, hb⟩
        have := HD.out
        rw [show decD (0 : Int).natAbs = [] from rfl, List.nil_append] at this
        rw [this]
        unfold decD
        rw [if_neg (by omega)]
        rw [itoa_pos' (by omega)]; rfl
      have hm0 : (m == 0) = false := by rw [beq_eq_false_iff_ne]; exact hm
      obtain ⟨r, hr⟩ : ∃ r, m.tmod 10 = r := ⟨_, rfl⟩
      have r1 : r.natAbs = m.natAbs % 10 := by rw [← hr, Int.natAbs_tmod]; rfl
      have r2 : -9 ≤ r ∧ r ≤ 9 := by omega
      obtain ⟨q, hq⟩ : ∃ q, m.tdiv 10 = q := ⟨_, rfl⟩
      have q1 : q.natAbs = m.natAbs / 10 := by rw [← hq, Int.natAbs_tdiv]; rfl
      have q2 : -922337203685477580 ≤ q ∧ q ≤ 922337203685477580 := by omega
      obtain ⟨q3, q4⟩ := q2
      have R1 := Lib.hid r1
      have Q1 := Lib.hid q1
      clear r1 q1
      go_wp2_with fail
      refine (size_any r _ (by omega) (by omega)).mono ?_
      rintro e w1 ⟨rfl, rfl⟩
      obtain ⟨k, hk⟩ : ∃ k, r.natAbs = k := ⟨_, rfl⟩
      have hk9 : k ≤ 9 := by omega
      have HK := Lib.hid hk
      rw [hk]
      clear hk
      obtain ⟨x, hx⟩ : ∃ x, UInt8.ofNat (48 + k) = x := ⟨_, rfl⟩
      have HX := Lib.hid hx
      have hconv : (convert 147 9 (.slice (some ⟨wr.heap.size, 0, none⟩) 1 1)).run Tryz.prog (wr.alloc (.cells #[.int .u8 (48 + (k : Int))] 5)) = .ok (.string (bs [x])) (wr.alloc (.cells #[.int .u8 (48 + (k : Int))] 5)) := by
        refine run_convert_bytes_back _ _ _ 5 ⟨wr.heap.size, 0, none⟩ 1 [x] Tryz.underlying147 Tryz.underlying5 Tryz.underlying9 ?_
        intro j hj
        obtain rfl : j = 0 := by simpa using hj
        have := cell_block (alloc_new wr (.cells #[.int .u8 (48 + (k : Int))] 5)) 0
        rw [show (⟨wr.heap.size, 0, none⟩ : Addr).add 0 = ⟨wr.heap.size, 0, none⟩ from rfl, this]
        rw [← hx]
        simp only [List.getElem_cons_zero, toNat_dig (show k < 10 by omega)]
        rfl
      clear hx
      have hsz1 : (bs [x]).size = 1 := rfl
      go_wp2_with fail
      go_roundw
      case rel =>
        refine ⟨q, x :: t, rfl, ?_, by omega, by omega, ?_, hb.trans ((Below.refl _ _).alloc hb.size _)⟩
        · show Value.string (bs [x] ++ bs t) = _
          rw [bs_app]
          rfl
        · rw [Q1.out, ← HD.out, decD_step (show m.natAbs ≠ 0 by omega), ← R1.out, HK.out, HX.out]
          simp
      case measure => have := Q1.out; simp [intOf]; omega
end Go.Proofs.YteigmjlfpmdmoaaGreatDoor

namespace Go.Proofs.YteigmjlfpmdmoaaGreatDoor
open Go.RowKit
open Calmly (Kept)

theorem words_snoc {l : List Int} (x : Int) (h : l ≠ []) : wordsF (l ++ [x]) = wordsF l ++ 32 :: Lib.itoa x := by
  cases l with
  | nil => exact absurd rfl h
  | cons a r =>
    simp only [wordsF, List.cons_append, List.map_cons, List.map_append, List.map_nil, Lib.join_cons, Lib.joinTail]
    simp
theorem words_one (x : Int) : wordsF [x] = Lib.itoa x := by simp [wordsF, Lib.join_one]

set_option maxRecDepth 100000 in
set_option maxHeartbeats 4000000 in
theorem rWords_any (a : Option Addr) (n c : Nat) (xs : List Int) (w : World) (h1 : SI w a n c xs) (hn : n ≤ 100000) (hx : I64 xs) :
    Calls Tryz.prog 83 #[.slice a n c] w fun e w' => e = .returned (.string (bs (wordsF xs))) ∧ Below w.heap.size w w' := by
  have hlen := h1.len
  have HL := Lib.hid hlen
  clear hlen
  have m1 := h1.max
  have c1 := h1.cap
  go_enter Tryz.func83, Tryz.ntmps83
  go_wp2_with fail
  go_loopw [3, 4] (fun x y wr => ∃ k : Nat, x = .string (bs (wordsF (xs.take k))) ∧ y = .int .i64 (k : Int) ∧ k ≤ n ∧ Below w.heap.size w wr) (fun _ y _ => n - (intOf y).toNat)
  case atStart => exact ⟨0, rfl, rfl, Nat.zero_le _, Below.refl _ _⟩
  case round =>
    obtain ⟨k, rfl, rfl, hk, hb⟩ := hrel
    by_cases hlt : k < n
    · obtain ⟨b1, o1, rfl, hc1⟩ := h1.at_ (by omega)
      have e1 := cell_keep (hc1 k hlt) hb
      clear hc1
      have hi : (k : Int) < (n : Int) := by omega
      have hi0 : (0 : Int) ≤ (k : Int) := by omega
      obtain ⟨q1, q2⟩ := hx.at_ k
      have htk : xs.take (k + 1) = xs.take k ++ [xs[k]?.getD 0] := by
        have : k < xs.length := by have := HL.out; omega
        rw [List.take_add_one, List.getElem?_eq_getElem this]
        rfl
      have hsz : (bs (wordsF (xs.take k))).size ≤ 2200000 := by
        rw [bs_size]
        have := words_len20 (xs := xs.take k) (fun y hy => hx y (List.mem_of_mem_take hy))
        rw [List.length_take] at this
        omega
      obtain ⟨x, hxx⟩ : ∃ x, xs[k]?.getD 0 = x := ⟨_, rfl⟩
      rw [hxx] at q1 q2 htk e1
      have hd := itoa_len20 q1 q2
      have hdz : (bs (Lib.itoa x)).size ≤ 20 := by rw [bs_size]; exact hd
      have HT := Lib.hid htk
      clear hxx htk hd
      obtain ⟨p, hp⟩ : ∃ p, wordsF (xs.take k) = p := ⟨_, rfl⟩
      rw [hp] at hsz ⊢
      by_cases h0 : k = 0
      · subst h0
        rw [Nat.add_zero] at e1
        have hz0 : ¬ (0 : Int) < ((0 : Nat) : Int) := by omega
        go_wp2_with fail
        refine (Decimal_any x _ q1 q2).mono ?_
        rintro e w1 ⟨rfl, hb1⟩
        go_wp2_with fail
        go_roundw
        case rel =>
          refine ⟨1, ?_, by go_num, by omega, hb.trans (hb1.mono hb.size)⟩
          have : p = [] := by rw [← hp]; rfl
          rw [HT.out, this, List.take_zero, List.nil_append, words_one]
          show Value.string (bs [] ++ bs (Lib.itoa x)) = _
          rw [bs_app]
          rfl
        case measure => simp [intOf]; omega
      · have hz0 : (0 : Int) < ((k : Nat) : Int) := by omega
        go_wp2_with fail
        refine (Decimal_any x _ q1 q2).mono ?_
        rintro e w1 ⟨rfl, hb1⟩
        go_wp2_with fail
        go_roundw
        case rel =>
          refine ⟨k + 1, ?_, by go_num, by omega, hb.trans (hb1.mono hb.size)⟩
          rw [HT.out, words_snoc _ (by intro h; have h9 := congrArg List.length h; rw [List.length_take] at h9; have := HL.out; simp only [List.length_nil] at h9; omega), hp]
          show Value.string ((bs p ++ bs [32]) ++ bs (Lib.itoa x)) = _
          rw [bs_app, bs_app]
          simp
        case measure => simp [intOf]; omega
    · obtain rfl : k = n := by omega
      go_wp2_with fail
      go_ret
      have e : xs.take k = xs := List.take_of_length_le (by have := HL.out; omega)
      exact ⟨by rw [e]; rfl, hb⟩

set_option maxRecDepth 100000 in
set_option maxHeartbeats 4000000 in
theorem rNumbers_any (s : List UInt8) (d : Nat) (bl : Bool) (w : World) (hs : s.length ≤ 1000000) (hd : d ≤ 18) :
    Calls Tryz.prog 82 #[.string (bs s), .int .i64 (d : Int), .bool bl] w fun e w' => ∃ a n c, e = .returned (.tuple #[.slice a n c, .bool (numsF d bl (cutB 32 s)).isSome]) ∧ SI w' a n c ((numsF d bl (cutB 32 s)).getD []) ∧ In w' 3 a ∧ Below w.heap.size w w' := by
  have hcl := cutB_le 32 s
  have hcn := cutB_count 32 s
  obtain ⟨ws, hws⟩ : ∃ ws, cutB 32 s = ws := ⟨_, rfl⟩
  rw [hws] at hcl hcn ⊢
  have HCL := Lib.hid hcl
  have HWS := Lib.hid hws
  clear hcl hws
  go_enter Tryz.func82, Tryz.ntmps82
  go_wp2_with fail
  refine (Cut_any s 32 w hs).mono ?_
  rintro e w1 ⟨a, n, c, rfl, ho, hb⟩
  rw [HWS.out] at ho
  have hlen := ho.len
  have hst := ho.st
  have HN := Lib.hid hlen
  have hnn : n ≤ 1000001 := by omega
  have m1 := hst.max
  have c1 := hst.cap
  clear hlen ho hcn
  go_wp2_with fail
  go_loopw [8, 10] (fun x y wr => ∃ k av cc out, x = .slice av k cc ∧ y = .int .i64 ((k : Nat) : Int) ∧ k ≤ n ∧ OwI wr w1.heap.size av k cc out ∧ numsF d bl (ws.take k) = some out ∧ Below w1.heap.size w1 wr) (fun _ y _ => n - (intOf y).toNat)
  case atStart => exact ⟨0, none, 0, [], rfl, rfl, Nat.zero_le _, OwI.nil _ _, rfl, Below.refl _ _⟩
  case round =>
    obtain ⟨k, av, cc, out, rfl, rfl, hk, hr, hns, hb2⟩ := hrel
    have HNS := Lib.hid hns
    clear hns
    by_cases hlt : k < n
    · obtain ⟨b1, o1, rfl, hc1⟩ := hst.at_ (by omega)
      have e1 := cell_keep (hc1 k hlt) hb2
      clear hc1
      have hi : (k : Int) < (n : Int) := by omega
      have hi0 : (0 : Int) ≤ (k : Int) := by omega
      have hkw : k < ws.length := by have := HN.out; omega
      have hg : ws[k]? = some ws[k] := List.getElem?_eq_getElem hkw
      obtain ⟨wd, hwd⟩ : ∃ p, ws[k] = p := ⟨_, rfl⟩
      rw [hwd] at hg
      rw [hg] at e1
      have hmem : wd ∈ ws := List.mem_of_getElem? hg
      have hwl := HCL.out wd hmem
      have htk : ws.take (k + 1) = ws.take k ++ [wd] := by rw [List.take_add_one, hg]; rfl
      have hsp : ws = ws.take k ++ wd :: ws.drop (k + 1) := by
        have := (List.take_append_drop k ws).symm
        rw [List.drop_eq_getElem_cons hkw, hwd] at this
        exact this
      have HTK := Lib.hid htk
      have HSP := Lib.hid hsp
      clear hmem htk hsp hg hwd hkw
      dsimp only [Option.getD] at e1
      go_wp2_with fail
      refine (Number_any wd d _ hd (by omega)).mono ?_
      rintro e w2 ⟨rfl, rfl⟩
      cases hf : numF wd d with
      | none =>
        have hw0 : wordP wd d bl = none := by unfold wordP; rw [hf]
        have HW0 := Lib.hid hw0
        clear hf hw0
        go_wp2_with fail
        go_ret2
        have hbad : numsF d bl ws = none := by rw [HSP.out]; exact numsF_bad _ HW0.out
        refine ⟨none, 0, 0, ?_, ?_, .inl rfl, hb.trans (hb2.mono hb.size)⟩
        · rw [hbad]; rfl
        · rw [hbad]; exact (OwI.nil _ 0).si
      | some v =>
        by_cases hv : v < 0
        · cases bl
          · have hw0 : wordP wd d false = none := by unfold wordP; rw [hf]; exact if_pos ⟨hv, rfl⟩
            have HW0 := Lib.hid hw0
            clear hf hw0
            go_wp2_with fail
            go_ret2
            have hbad : numsF d false ws = none := by rw [HSP.out]; exact numsF_bad _ HW0.out
            refine ⟨none, 0, 0, ?_, ?_, .inl rfl, hb.trans (hb2.mono hb.size)⟩
            · rw [hbad]; rfl
            · rw [hbad]; exact (OwI.nil _ 0).si
          · have hw0 : wordP wd d true = some v := by unfold wordP; rw [hf]; exact if_neg (fun h => by cases h.2)
            have HW0 := Lib.hid hw0
            clear hf hw0
            go_wp2_with (at_builtin; refine appI rfl _ _ rfl hr rfl rfl (by omega) hb2.size ?_; intro a5 c5 w5 ho5 hb5 hs5)
            go_roundw
            case rel => exact ⟨k + 1, a5, c5, out ++ [v], rfl, by go_num, by omega, ho5, by rw [HTK.out]; exact numsF_snoc HNS.out _ _ HW0.out, hb2.trans hb5⟩
            case measure => simp [intOf]; omega
        · have hw0 : wordP wd d bl = some v := by unfold wordP; rw [hf]; exact if_neg (fun h => hv h.1)
          have HW0 := Lib.hid hw0
          have hvd : decide (v < 0) = false := decide_eq_false hv
          clear hf hw0
          go_wp2_with (at_builtin; refine appI rfl _ _ rfl hr rfl rfl (by omega) hb2.size ?_; intro a5 c5 w5 ho5 hb5 hs5)
          go_roundw
          case rel => exact ⟨k + 1, a5, c5, out ++ [v], rfl, by go_num, by omega, ho5, by rw [HTK.out]; exact numsF_snoc HNS.out _ _ HW0.out, hb2.trans hb5⟩
          case measure => simp [intOf]; omega
    · obtain rfl : k = n := by omega
      go_wp2_with fail
      go_ret2
      have hall := HNS.out
      rw [List.take_of_length_le (by have := HN.out; omega)] at hall
      refine ⟨av, k, cc, ?_, ?_, In.of_owns hr, hb.trans (hb2.mono hb.size)⟩
      · rw [hall]; rfl
      · rw [hall]; exact hr.si
end Go.Proofs.YteigmjlfpmdmoaaGreatDoor

namespace Go.Proofs.YteigmjlfpmdmoaaGreatDoor
open Go.RowKit
open Calmly (Kept)

theorem decayE_cases (xs : List Int) (off : Int) : decayE xs off = if xs.length = 0 then 10 else if 60 < xs.length then 8 else if xs.any odd1 = true then 2 else if wIn off 0 10000 = true then 0 else 2 := by
  unfold decayE
  rw [firstE, firstE_three]
  generalize xs.any odd1 = b
  generalize wIn off 0 10000 = c
  generalize xs.length = l
  by_cases h0 : l = 0
  · subst h0
    cases b <;> cases c <;> rfl
  · have e0 : 0 < l := by omega
    by_cases h6 : 60 < l
    · have e1 : ¬ ((l : Int) ≤ 60) := by omega
      simp [h0, h6, e0, e1, unlessE]
    · have e1 : (l : Int) ≤ 60 := by omega
      cases b <;> cases c <;> simp [h0, h6, e0, e1, unlessE]

set_option maxRecDepth 100000 in
set_option maxHeartbeats 4000000 in
theorem DecayErr_any (a : Option Addr) (n c : Nat) (xs : List Int) (off : Int) (w : World) (h1 : SI w a n c xs) :
    Calls Tryz.prog 53 #[.agg #[.slice a n c, .int .i64 off]] w fun e w' => e = .returned (.int .i64 (decayE xs off)) ∧ Below w.heap.size w w' := by
  obtain ⟨l1, l2⟩ : n ≤ xs.length ∧ xs.length ≤ n := by have := h1.len; omega
  have m1 := h1.max
  have c1 := h1.cap
  have hb : ∀ o, Below w.heap.size w (w.alloc o) := fun o => (Below.refl _ _).alloc (Nat.le_refl _) _
  have hd := decayE_cases xs off
  have HD := Lib.hid hd
  clear hd
  rcases Nat.eq_zero_or_pos n with rfl | h0
  · go_enter Tryz.func53, Tryz.ntmps53
    go_wp2_with fail
    go_ret
    exact ⟨ret_int (by rw [HD.out, if_pos (by omega)]), hb _⟩
  · have t0 : ((n : Int) == 0) = false := by simp; omega
    by_cases h6 : 60 < n
    · have t1 : (60 : Int) < (n : Int) := by omega
      go_enter Tryz.func53, Tryz.ntmps53
      go_wp2_with fail
      go_ret
      exact ⟨ret_int (by rw [HD.out, if_neg (by omega), if_pos (by omega)]), hb _⟩
    · have t1 : (n : Int) ≤ 60 := by omega
      have hnew := alloc_new w (.cells #[.slice a n c, .int .i64 off] 28)
      obtain ⟨wa, hwa⟩ : ∃ x, x = w.alloc (.cells #[.slice a n c, .int .i64 off] 28) := ⟨_, rfl⟩
      have hba : Below w.heap.size w wa := hwa ▸ hb _
      rw [← hwa] at hnew
      have d0 : wa.cell? ⟨w.heap.size, 0, none⟩ = some (.slice a n c) := cell_block hnew 0
      have d1 : wa.cell? ⟨w.heap.size, 1, none⟩ = some (.int .i64 off) := cell_block hnew 1
      go_enter Tryz.func53, Tryz.ntmps53
      go_wp2_with fail
      rw [← hwa]
      clear hwa
      go_loop [3] (fun i => ∃ k : Nat, k ≤ n ∧ i = .int .i64 k ∧ ∀ j, j < k → odd1 (xs[j]?.getD 0) = false) (fun i => n - (intOf i).toNat)
      case atStart => exact ⟨0, by omega, rfl, fun j hj => by omega⟩
      case round =>
        obtain ⟨k, hk, rfl, ht⟩ := hrel
        have HT := Lib.hid ht
        clear ht
        by_cases hlt : k < n
        · obtain ⟨b1, o1, rfl, hc1⟩ := h1.at_ (by omega)
          have e1 := cell_keep (hc1 k hlt) hba
          clear hc1
          have hi : (k : Int) < (n : Int) := by omega
          have hi0 : (0 : Int) ≤ (k : Int) := by omega
          have hx : xs[k]? = some (xs[k]?.getD 0) := by
            have : k < xs.length := by omega
            simp [this]
          have HX := Lib.hid hx
          clear hx
          obtain ⟨x, hxx⟩ : ∃ x, xs[k]?.getD 0 = x := ⟨_, rfl⟩
          rw [hxx] at e1 HX
          have HXX := Lib.hid hxx
          clear hxx
          cases ho : wIn x (-10000) 10000
          · go_wp2_with (first | (go_at_call 8; refine (within_any _ _ _ _).mono ?_; rintro e w' ⟨rfl, rfl⟩))
            go_ret
            refine ⟨ret_int ?_, hba⟩
            have : xs.any odd1 = true := List.any_eq_true.2 ⟨x, List.mem_of_getElem? HX.out, by unfold odd1; rw [ho]; rfl⟩
            rw [HD.out, if_neg (by omega), if_neg (by omega), if_pos this]
          · go_wp2_with (first | (go_at_call 8; refine (within_any _ _ _ _).mono ?_; rintro e w' ⟨rfl, rfl⟩))
            go_round
            case rel => exact ⟨k + 1, by omega, by go_num, fun j hj => if h : j = k then by subst h; rw [HXX.out]; unfold odd1; rw [ho]; rfl else HT.out j (by omega)⟩
            case measure => simp [intOf]; omega
        · have hle : (n : Int) ≤ (k : Int) := by omega
          have hany : xs.any odd1 = false := by
            rw [List.any_eq_false]
            intro x hx
            obtain ⟨j, hj, rfl⟩ := List.mem_iff_getElem.1 hx
            have := HT.out j (by omega)
            simp [hj] at this
            simp [this]
          have HA := Lib.hid hany
          clear hany
          cases ho : wIn off 0 10000
          · go_wp2_with (first | (go_at_call 8; refine (within_any _ _ _ _).mono ?_; rintro e w' ⟨rfl, rfl⟩))
            go_ret
            refine ⟨ret_int ?_, hba⟩
            rw [HD.out, if_neg (by omega), if_neg (by omega), HA.out, ho]
            rfl
          · go_wp2_with (first | (go_at_call 8; refine (within_any _ _ _ _).mono ?_; rintro e w' ⟨rfl, rfl⟩))
            go_ret
            refine ⟨ret_int ?_, hba⟩
            rw [HD.out, if_neg (by omega), if_neg (by omega), HA.out, ho]
            rfl

set_option maxRecDepth 100000 in
set_option maxHeartbeats 4000000 in
theorem CopyDecay_any (a : Option Addr) (n c : Nat) (xs : List Int) (off : Int) (w : World) (h1 : SI w a n c xs) (hn : n ≤ 1099511627776) :
    Calls Tryz.prog 13 #[.agg #[.slice a n c, .int .i64 off]] w fun e w' => ∃ a' c', e = .returned (.agg #[.slice a' n c', .int .i64 off]) ∧ SI w' a' n c' xs ∧ Below w.heap.size w w' := by
  have hb : ∀ o o', Below w.heap.size w ((w.alloc o).alloc o') := fun o o' => ((Below.refl _ _).alloc (Nat.le_refl _) _).alloc (by simp) _
  go_enter Tryz.func13, Tryz.ntmps13
  go_wp2_with fail
  refine (copyInts_any a n c xs _ (h1.keep (hb _ _)) hn).mono ?_
  rintro e w1 ⟨a', c', rfl, ho1, hb1⟩
  obtain ⟨x1, x2⟩ := box2 (w := w) (o := .cells #[.slice a n c, .int .i64 off] 28) (o' := .cells #[.slice none 0 0, .int .i64 0] 28) hb1
  have hs1 := blk_lt x2
  have f0 : w1.cell? ⟨w.heap.size, 0, none⟩ = some (.slice a n c) := cell_block x1 0
  have f1 : w1.cell? ⟨w.heap.size, 1, none⟩ = some (.int .i64 off) := cell_block x1 1
  have r0 := frozen_block x1 0
  have r1 := frozen_block x1 1
  have g0 : w1.cell? ⟨w.heap.size + 1, 0, none⟩ = some (.slice none 0 0) := cell_block x2 0
  have g1 : w1.cell? ⟨w.heap.size + 1, 1, none⟩ = some (.int .i64 0) := cell_block x2 1
  have g2 := frozen_block x2 0
  have g3 := frozen_block x2 1
  have hsz := hb1.size
  have hsz2 : w.heap.size + 2 ≤ ((w.alloc (.cells #[.slice a n c, .int .i64 off] 28)).alloc (.cells #[.slice none 0 0, .int .i64 0] 28)).heap.size := by simp
  have q0 : (w1.setCell ⟨w.heap.size, 0, none⟩ (.slice a' n c')).cell? ⟨w.heap.size + 1, 0, none⟩ = some (.slice none 0 0) := by rw [World.cell?_setCell_other _ _ _ _ (by simp)]; exact g0
  have q1 : (w1.setCell ⟨w.heap.size, 0, none⟩ (.slice a' n c')).cell? ⟨w.heap.size + 1, 1, none⟩ = some (.int .i64 0) := by rw [World.cell?_setCell_other _ _ _ _ (by simp)]; exact g1
  obtain ⟨s0, s1, _, _⟩ := set2 (x := .slice a' n c') (y := .int .i64 off) q0 q1
  have hbw := (hb (.cells #[.slice a n c, .int .i64 off] 28) (.cells #[.slice none 0 0, .int .i64 0] 28)).trans (hb1.mono (by omega))
  go_wp2_with fail
  refine bodyPost_ret (v := .agg #[.slice a' n c', .int .i64 off]) (by simp [results, Tryz.results13, go_sem, s0, s1]) rfl ⟨a', c', rfl, ?_, ?_⟩
  · exact (((ho1.under (by omega) _).under (by omega) _).under (by omega) _).si
  · exact ((hbw.setCell (by simp) _).setCell (by simp) _).setCell (by simp) _

theorem fewSamples_any (a : Option Addr) (n c : Nat) (off : Int) (w : World) (b : Bool) (hb : b = decide ((n : Int) ≤ 62)) :
    Calls Tryz.prog 48 #[.agg #[.slice a n c, .int .i64 off]] w fun e w' => e = .returned (.bool b) ∧ Below w.heap.size w w' := by
  subst hb
  go_enter Tryz.func48, Tryz.ntmps48
  go_wp2_with fail
  go_ret
  exact ⟨rfl, (Below.refl _ _).alloc (Nat.le_refl _) _⟩
end Go.Proofs.YteigmjlfpmdmoaaGreatDoor
