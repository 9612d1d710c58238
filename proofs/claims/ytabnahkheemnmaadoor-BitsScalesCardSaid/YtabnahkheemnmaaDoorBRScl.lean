/-
  The walk of the reference's Scale.
-/
import Derived.Test.YtabnahkheemnmaaDoorBScl
namespace Go.Proofs.YtabnahkheemnmaaDoor
open Go Go.RowKit Go.Fl

theorem rne_nought {M d : Nat} (h : M < 9007199254740992) (hd : 54 ≤ d) : rne M d = 0 := by
  have : 2 ^ 54 ≤ 2 ^ d := Nat.pow_le_pow_right (by decide) hd
  unfold rne
  rw [Nat.div_eq_of_lt (by omega), Nat.mod_eq_of_lt (by omega), if_neg (by omega)]
theorem scR_clamp {r : Nat} (h0 : 0 < r) (hr : r < 9218868437227405312) (k : Int) : scR r (nE r + clamp k) = scR r (nE r + min (max k (-5000)) 5000) := by
  have hb := nE_bound h0 hr
  have hM := nM_bound h0
  by_cases h1 : 5000 < k
  · have e1 : 2045 < nE r + clamp k := by unfold clamp; omega
    have e2 : 2045 < nE r + min (max k (-5000)) 5000 := by omega
    unfold scR; rw [if_pos e1, if_pos e2]
  · by_cases h2 : k < -5000
    · have e1 : nE r + clamp k < -60 := by unfold clamp; omega
      have e2 : nE r + min (max k (-5000)) 5000 < -60 := by omega
      unfold scR; rw [if_neg (by omega), if_neg (by omega), if_neg (by omega), if_neg (by omega), rne_nought hM.2 (by omega), rne_nought hM.2 (by omega)]
    · have e1 : clamp k = min (max k (-5000)) 5000 := by unfold clamp; omega
      rw [e1]
theorem rScale_no (a : Nat) (k : Int) (w : World) (h : noExp a) :
    Calls Tryd.prog 42 #[.float .f64 a, .int .i64 k] w fun e w' => e = .returned (.float .f64 a) ∧ w = w' := by
  cases hn : isN a with
  | true =>
    have HB := Lib.hid (rb_nan a · hn)
    clear h hn
    go_enter Tryd.func42, Tryd.ntmps42
    go_wp2_with (go_at_call 35; (with_reducible refine (HB.out _).mono ?_); rintro e w1 ⟨rfl, rfl⟩)
    go_ret
    exact ⟨rfl, rfl⟩
  | false =>
    have hq : lo a ≤ 9218868437227405312 := not_isN hn
    have HB := Lib.hid (rb_fin a · hq)
    have hm := lo_mod63 a
    unfold noExp at h
    generalize lo a = r at *
    rcases h with h | h
    · subst h
      clear hn hq
      go_enter Tryd.func42, Tryd.ntmps42
      go_wp2_with (go_at_call 35; (with_reducible refine (HB.out _).mono ?_); rintro e w1 ⟨rfl, rfl⟩)
      go_ret
      exact ⟨rfl, rfl⟩
    · obtain rfl : r = 9218868437227405312 := by omega
      clear hn hq h
      go_enter Tryd.func42, Tryd.ntmps42
      go_wp2_with (go_at_call 35; (with_reducible refine (HB.out _).mono ?_); rintro e w1 ⟨rfl, rfl⟩)
      go_ret
      exact ⟨rfl, rfl⟩
theorem nl_stop {r j : Nat} (h0 : 0 < r) (hj : j ≤ nl r) : (rmag r * 2 ^ j < 4503599627370496 ↔ j < nl r) ∧ rmag r * 2 ^ j < 9007199254740992 := by
  have hM := nM_bound h0
  unfold nM at hM
  constructor
  · constructor
    · intro h
      rcases Nat.lt_or_ge j (nl r) with c | c
      · exact c
      · obtain rfl : j = nl r := by omega
        omega
    · intro h
      have e : rmag r * 2 ^ nl r = rmag r * 2 ^ j * 2 ^ (nl r - j) := by rw [Nat.mul_assoc, ← Nat.pow_add]; congr 2; omega
      have e2 : 2 ^ 1 ≤ 2 ^ (nl r - j) := Nat.pow_le_pow_right (by decide) (by omega)
      have e3 := Nat.mul_le_mul_left (rmag r * 2 ^ j) e2
      omega
  · have e : rmag r * 2 ^ nl r = rmag r * 2 ^ j * 2 ^ (nl r - j) := by rw [Nat.mul_assoc, ← Nat.pow_add]; congr 2; omega
    have e2 : 2 ^ 0 ≤ 2 ^ (nl r - j) := Nat.pow_le_pow_right (by decide) (by omega)
    have e3 := Nat.mul_le_mul_left (rmag r * 2 ^ j) e2
    omega
set_option maxHeartbeats 1600000 in
theorem rScale_yes (a : Nat) (k : Int) (w : World) (h : a < 18446744073709551616) (h0 : 0 < lo a) (hf : lo a < 9218868437227405312) :
    Calls Tryd.prog 42 #[.float .f64 a, .int .i64 k] w fun e w' => e = .returned (.float .f64 (sw a + scR (lo a) (nE (lo a) + clamp k))) ∧ w = w' := by
  rw [scR_clamp h0 hf k]
  have HB := Lib.hid (rb_fin a · (Nat.le_of_lt hf))
  have HP := Lib.hid (rparts_any a · hf)
  have hb := nE_bound h0 hf
  have hM := nM_bound h0
  have HR := Lib.hid (scR_eq (lo a) (nE (lo a) + min (max k (-5000)) 5000))
  have hm := lo_mod63 a
  have hx : rexp (lo a) ≤ 2046 := by unfold rexp; omega
  have hrm := rmag_lt (lo a)
  have HN : Hid (nM (lo a) = rmag (lo a) * 2 ^ nl (lo a) ∧ nE (lo a) = (rexp (lo a) : Int) - nl (lo a)) := Lib.hid ⟨rfl, rfl⟩
  have HS := Lib.hid fun j (hj : j ≤ nl (lo a)) => nl_stop h0 hj
  have hnl : nl (lo a) ≤ 52 := by unfold nl; omega
  have hsw : Hid ((a : Int) - (lo a : Int) = (sw a : Int)) := Lib.hid (by have := sw_lo a; omega)
  have hsl : sw a ≤ 9223372036854775808 := by unfold sw; omega
  generalize scR (lo a) (nE (lo a) + min (max k (-5000)) 5000) = R at *
  generalize nE (lo a) = x at *
  generalize nM (lo a) = M at *
  generalize rmag (lo a) = m at *
  generalize rexp (lo a) = y at *
  generalize nl (lo a) = l at *
  generalize hrl : lo a = r at *
  have d1 : ((r : Int) == 0) = false := by rw [beq_eq_false_iff_ne]; omega
  have d2 : decide ((9218868437227405312 : Int) ≤ (r : Int)) = false := by simp; omega
  have hmm : m < 9007199254740992 := hrm
  clear hrl
  go_enter Tryd.func42, Tryd.ntmps42
  go_upto_region 7 with (first
    | (go_at_call 35; (with_reducible refine (HB.out _).mono ?_); rintro e w1 ⟨rfl, rfl⟩)
    | (go_at_call 51; (with_reducible refine (HP.out _).mono ?_); rintro e w1 ⟨rfl, rfl⟩))
  have hK : -5000 ≤ min (max k (-5000)) 5000 ∧ min (max k (-5000)) 5000 ≤ 5000 := by omega
  generalize min (max k (-5000)) 5000 = K at *
  obtain ⟨X, hX⟩ : ∃ X, x + K = X := ⟨_, rfl⟩
  have HT : Hid ((y : Int) - 1074 + K - (l : Int) = X - 1074 ∧ -6000 ≤ X ∧ X ≤ 8000) := Lib.hid ⟨by have := HN.out.2; omega, by omega, by omega⟩
  have HR2 := HR
  rw [hX] at HR2
  have hTb : -6100 ≤ (y : Int) - 1074 + K ∧ (y : Int) - 1074 + K ≤ 6100 := by omega
  generalize (y : Int) - 1074 + K = T at *
  have HMN : Hid (M = m * 2 ^ l) := Lib.hid HN.out.1
  clear HR HN hX hb d1 d2 hrm HB HP hf hx
  obtain ⟨w0, hw0⟩ : ∃ w0 : World, w0 = w := ⟨_, rfl⟩
  rw [← hw0]
  go_loopw [7, 8] (fun mv ev wr => ∃ j : Nat, j ≤ l ∧ mv = .int .u64 ((m * 2 ^ j : Nat) : Int) ∧ ev = .int .i64 (T - (j : Int)) ∧ wr = w0) (fun _ ev _ => (intOf ev - T + 60).toNat)
  case atStart => exact ⟨0, by omega, by rw [Nat.pow_zero, Nat.mul_one], by simp, rfl⟩
  case round =>
    obtain ⟨j, hj, rfl, rfl, rfl⟩ := hrel
    obtain ⟨s1, s2⟩ := HS.out j hj
    have HNX : Hid (∀ N, N = m * 2 ^ j → m * 2 ^ (j + 1) = N * 2) := Lib.hid fun N e => by rw [e, Nat.pow_succ, Nat.mul_assoc]
    obtain ⟨N, hN⟩ : ∃ N, m * 2 ^ j = N := ⟨_, rfl⟩
    rw [hN] at s1 s2 ⊢
    by_cases c : N < 4503599627370496
    · have hjl := s1.1 c
      have dd : decide ((N : Int) < 4503599627370496) = true := by simp; omega
      have g1 : IntKind.u64.wrap ((N : Int) * 2) = ((N * 2 : Nat) : Int) := by rw [IntKind.wrap_u64]; omega
      have HN2 := Lib.hid (HNX.out N hN.symm)
      clear s1 s2 hN
      go_wp2_with fail
      go_roundw
      case rel => exact ⟨j + 1, by omega, by rw [HN2.out, Int.natCast_mul]; rfl, congrArg (Value.int IntKind.i64) (by omega), by first | rfl | exact hw0 | exact hw0.symm⟩
      case measure => simp [intOf]; omega
    · obtain rfl : j = l := by
        have : ¬ j < l := fun h => c (s1.2 h)
        omega
      obtain rfl : M = N := by rw [HMN.out]; exact hN
      have dd : decide ((M : Int) < 4503599627370496) = false := by simp; omega
      rw [HT.out.1]
      have hXb := HT.out.2
      clear s1 s2 hN HS HNX HMN HT hTb c
      go_upto_region 11 with fail
      have gs : IntKind.u64.wrap ((a : Int) - (r : Int)) = ((sw a : Nat) : Int) := by rw [hsw.out, IntKind.wrap_u64]; omega
      by_cases c1 : X < -60
      · have e1 : max (-1074 - (X - 1074)) 0 = -X := by omega
        have dv : decide ((60 : Int) < -X) = true := by simp; omega
        have HR3 : Hid (R = 0) := Lib.hid (by rw [HR2.out, if_neg (by omega), if_neg (by omega), rne_nought hM.2 (by omega)])
        rw [e1]
        clear e1 HR2 c1 hM hsl
        go_wp2_with fail
        go_ret
        exact ⟨by rw [HR3.out, Nat.add_zero]; rfl, rfl⟩
      · by_cases c2 : X < 0
        · obtain ⟨c, hc⟩ : ∃ c : Nat, X = -(c : Int) := ⟨(-X).toNat, by omega⟩
          obtain ⟨C, hC⟩ : ∃ C : Int, C = (c : Int) := ⟨_, rfl⟩
          have e1 : max (-1074 - (X - 1074)) 0 = C := by omega
          rw [e1]
          clear e1
          have hc1 : 1 ≤ c ∧ c ≤ 60 := by omega
          have HCC := Lib.hid (And.intro hc hC)
          have hC0 : 0 ≤ C ∧ C ≤ 60 := by omega
          clear hc c1 c2 hsl hC
          have dv : decide ((60 : Int) < C) = false := by simp; omega
          obtain ⟨W, hW⟩ : ∃ W, M / 2 ^ c = W := ⟨_, rfl⟩
          obtain ⟨Q, hQ⟩ : ∃ Q, M % 2 ^ c = Q := ⟨_, rfl⟩
          obtain ⟨P, hP⟩ : ∃ P, 2 ^ c = P := ⟨_, rfl⟩
          have ec : C.toNat = c := by have := HCC.out.2; omega
          have p2 : 2 ^ c ≤ 2 ^ 60 := Nat.pow_le_pow_right (by decide) hc1.2
          have p3 : 2 ^ 1 ≤ 2 ^ c := Nat.pow_le_pow_right (by decide) hc1.1
          have p4 : P % 2 = 0 := by rw [← hP, show c = c - 1 + 1 by omega, Nat.pow_succ]; omega
          have e2 : (M : Int) / 2 ^ C.toNat = (W : Int) := by rw [ec, ← hW, Int.natCast_ediv, Int.natCast_pow]; rfl
          have e3 : IntKind.u64.wrap (2 ^ C.toNat) = (P : Int) := by
            have e7 : (2 : Int) ^ c = ((2 ^ c : Nat) : Int) := by rw [Int.natCast_pow]; rfl
            rw [ec, e7, hP, IntKind.wrap_u64]; omega
          rw [hP] at hQ p2 p3
          have hQ2 : (M : Int) % (P : Int) = (Q : Int) := by rw [← hQ]; rfl
          obtain ⟨H, hH⟩ : ∃ H, P / 2 = H := ⟨_, rfl⟩
          have e5 : (P : Int) / 2 = (H : Int) := by omega
          have hP0 : ((P : Int) == 0) = false := by rw [beq_eq_false_iff_ne]; omega
          have hP1 : ¬ (P : Int) = 0 := by omega
          have hQl : Q < P := by rw [← hQ]; exact Nat.mod_lt _ (by omega)
          have HWB : Hid (W < 9007199254740992 ∧ (M < 9007199254740992 → 2 ≤ P → 2 * W ≤ M)) := Lib.hid ⟨by rw [← hW]; exact Nat.lt_of_le_of_lt (Nat.div_le_self _ _) hM.2, fun _ _ => by
            rw [← hW, hP]
            have := Nat.div_mul_le_self M P
            have := Nat.mul_le_mul_left (M / P) (show 2 ≤ P by omega)
            omega⟩
          have HRN : Hid (R = W + (if H < Q ∨ (H = Q ∧ W % 2 = 1) then 1 else 0)) := Lib.hid (by
            have hXc := HCC.out.1
            rw [HR2.out, if_neg (by omega), if_neg (by omega), show (-X).toNat = c by omega]
            unfold rne
            rw [hW, hP, hQ]
            have q1 : (P < 2 * Q ∨ P = 2 * Q ∧ W % 2 = 1) ↔ (H < Q ∨ H = Q ∧ W % 2 = 1) := by omega
            simp only [q1])
          have HPB : Hid (2 ≤ P ∧ P ≤ 1152921504606846976 ∧ P = 2 * H) := Lib.hid ⟨by omega, by omega, by omega⟩
          clear hW hQ hP p2 p3 ec p4 hH
          go_upto_region 17 with fail
          have hPB := HPB.out
          have e11 : IntKind.u64.wrap (H : Int) = (H : Int) := by rw [IntKind.wrap_u64]; omega
          have e12 : X - 1074 + C = -1074 := by have := HCC.out; omega
          rw [hQ2, e11, e12]
          have hWM := HWB.out.2 hM.2 (by omega)
          have hsl2 : sw a ≤ 9223372036854775808 := by unfold sw; omega
          have dC : decide ((0 : Int) < C) = true := by have := HCC.out.2; simp; omega
          clear e11 e12 e2 e3 e5 hP0 hP1 hQ2 HR2 dv
          have hHP : H < 1152921504606846976 ∧ Q < 1152921504606846977 := by omega
          clear hQl HWB hPB HPB
          by_cases u : H < Q ∨ (H = Q ∧ W % 2 = 1)
          · obtain ⟨Z, hZ⟩ : ∃ Z, W + 1 = Z := ⟨_, rfl⟩
            have g3 : IntKind.u64.wrap ((W : Int) + 1) = (Z : Int) := by rw [IntKind.wrap_u64]; omega
            have HZB : Z ≤ 4503599627370496 := by omega
            have g5 : IntKind.u64.wrap ((sw a : Int) + (Z : Int)) = ((sw a + Z : Nat) : Int) := by rw [IntKind.wrap_u64]; omega
            have g6 : IntKind.u64.wrap (Z : Int) = (Z : Int) := by rw [IntKind.wrap_u64]; omega
            have d9 : decide ((9007199254740992 : Int) ≤ (Z : Int)) = false := by simp; omega
            have HR3 : Hid (R = Z) := Lib.hid (by rw [HRN.out, if_pos u, hZ])
            clear HRN hWM
            by_cases u1 : H < Q
            · have d1 : decide ((H : Int) < (Q : Int)) = true := by simpa using u1
              have d1' : decide (H < Q) = true := by simpa using u1
              clear u hZ
              go_upto_region 24 with fail
              rcases Nat.lt_or_ge Z 4503599627370496 with hz | hz
              · have dz : decide ((4503599627370496 : Int) ≤ (Z : Int)) = false := by simp; omega
                clear HZB hz
                go_wp2_with fail
                go_ret
                exact ⟨by rw [HR3.out]; rfl, rfl⟩
              · have dz : decide ((4503599627370496 : Int) ≤ (Z : Int)) = true := by simp; omega
                clear HZB hz
                go_wp2_with fail
                go_ret
                exact ⟨by rw [HR3.out]; rfl, rfl⟩
            · have d1 : decide ((H : Int) < (Q : Int)) = false := by simpa using u1
              have d1' : decide (H < Q) = false := by simpa using u1
              have u2 : Q = H := by omega
              have u3 : W % 2 = 1 := by omega
              have d2 : ((Q : Int) == (H : Int)) = true := by rw [u2]; simp
              have d2' : (Q == H) = true := by simpa using u2
              have d3 : ((W : Int) % 2 == 1) = true := by simp; omega
              clear u hZ
              go_upto_region 24 with fail
              rcases Nat.lt_or_ge Z 4503599627370496 with hz | hz
              · have dz : decide ((4503599627370496 : Int) ≤ (Z : Int)) = false := by simp; omega
                clear HZB hz
                go_wp2_with fail
                go_ret
                exact ⟨by rw [HR3.out]; rfl, rfl⟩
              · have dz : decide ((4503599627370496 : Int) ≤ (Z : Int)) = true := by simp; omega
                clear HZB hz
                go_wp2_with fail
                go_ret
                exact ⟨by rw [HR3.out]; rfl, rfl⟩
          · obtain ⟨Z, hZ⟩ : ∃ Z, W = Z := ⟨_, rfl⟩
            subst hZ
            have HZB : W ≤ 4503599627370496 := by omega
            have g5 : IntKind.u64.wrap ((sw a : Int) + (W : Int)) = ((sw a + W : Nat) : Int) := by rw [IntKind.wrap_u64]; omega
            have g6 : IntKind.u64.wrap (W : Int) = (W : Int) := by rw [IntKind.wrap_u64]; omega
            have d9 : decide ((9007199254740992 : Int) ≤ (W : Int)) = false := by simp; omega
            have HR3 : Hid (R = W) := Lib.hid (by rw [HRN.out, if_neg u]; rfl)
            clear HRN hWM
            have u1 : ¬ H < Q := fun h => u (Or.inl h)
            have d1 : decide ((H : Int) < (Q : Int)) = false := by simpa using u1
            have d1' : decide (H < Q) = false := by simpa using u1
            by_cases u2 : Q = H
            · have u3 : W % 2 = 0 := by omega
              have d2 : ((Q : Int) == (H : Int)) = true := by rw [u2]; simp
              have d2' : (Q == H) = true := by simpa using u2
              have d3 : ((W : Int) % 2 == 1) = false := by simp; omega
              clear u
              go_upto_region 24 with fail
              rcases Nat.lt_or_ge W 4503599627370496 with hz | hz
              · have dz : decide ((4503599627370496 : Int) ≤ (W : Int)) = false := by simp; omega
                clear HZB hz
                go_wp2_with fail
                go_ret
                exact ⟨by rw [HR3.out]; rfl, rfl⟩
              · have dz : decide ((4503599627370496 : Int) ≤ (W : Int)) = true := by simp; omega
                clear HZB hz
                go_wp2_with fail
                go_ret
                exact ⟨by rw [HR3.out]; rfl, rfl⟩
            · have d2' : (Q == H) = false := by simpa using u2
              have d2 : ((Q : Int) == (H : Int)) = false := by rw [beq_eq_false_iff_ne]; omega
              clear u
              go_upto_region 24 with fail
              rcases Nat.lt_or_ge W 4503599627370496 with hz | hz
              · have dz : decide ((4503599627370496 : Int) ≤ (W : Int)) = false := by simp; omega
                clear HZB hz
                go_wp2_with fail
                go_ret
                exact ⟨by rw [HR3.out]; rfl, rfl⟩
              · have dz : decide ((4503599627370496 : Int) ≤ (W : Int)) = true := by simp; omega
                clear HZB hz
                go_wp2_with fail
                go_ret
                exact ⟨by rw [HR3.out]; rfl, rfl⟩
        · have e1 : max (-1074 - (X - 1074)) 0 = 0 := by omega
          rw [e1]
          clear e1
          have d9 : decide ((9007199254740992 : Int) ≤ (M : Int)) = false := by simp; omega
          have dm : decide ((4503599627370496 : Int) ≤ (M : Int)) = true := by simp; omega
          by_cases c3 : 2045 < X
          · have HR3 : Hid (R = 9218868437227405312) := Lib.hid (by rw [HR2.out, if_pos c3])
            have d8 : decide ((971 : Int) < X - 1074) = true := by simp; omega
            have g5 : IntKind.u64.wrap ((sw a : Int) + 9218868437227405312) = ((sw a + 9218868437227405312 : Nat) : Int) := by rw [IntKind.wrap_u64]; omega
            clear HR2 c1 c2 c3 hsl
            go_wp2_with fail
            go_ret
            exact ⟨by rw [HR3.out]; rfl, rfl⟩
          · obtain ⟨q, hq⟩ : ∃ q : Nat, X = (q : Int) := ⟨X.toNat, by omega⟩
            have hq1 : q ≤ 2045 := by omega
            have HR3 : Hid (R = q * 4503599627370496 + M) := Lib.hid (by rw [HR2.out, if_neg c3, if_pos (by omega), show X.toNat = q by omega])
            have d8 : decide ((971 : Int) < X - 1074) = false := by simp; omega
            have g7 : IntKind.u64.wrap X = (q : Int) := by rw [hq, IntKind.wrap_u64]; omega
            have g7' : IntKind.u64.wrap (X - 1074 + 1074) = (q : Int) := by rw [hq, IntKind.wrap_u64]; omega
            have g8 : IntKind.u64.wrap ((q : Int) * 4503599627370496) = ((q * 4503599627370496 : Nat) : Int) := by rw [IntKind.wrap_u64]; omega
            have HQ := Lib.hid hq
            clear HR2 c1 c2 c3 hq
            go_upto_region 26 with fail
            obtain ⟨Z, hZ⟩ : ∃ Z, q * 4503599627370496 + M = Z := ⟨_, rfl⟩
            have eZ : (M : Int) + (q : Int) * 4503599627370496 = (Z : Int) := by omega
            rw [eZ]
            have g5 : IntKind.u64.wrap ((sw a : Int) + (Z : Int)) = ((sw a + Z : Nat) : Int) := by rw [IntKind.wrap_u64]; omega
            have HR4 : Hid (R = Z) := Lib.hid (by rw [HR3.out, hZ])
            clear hZ eZ HR3 g7 g7' g8 hq1
            go_wp2_with fail
            go_ret
            exact ⟨by rw [HR4.out]; rfl, rfl⟩
end Go.Proofs.YtabnahkheemnmaaDoor
