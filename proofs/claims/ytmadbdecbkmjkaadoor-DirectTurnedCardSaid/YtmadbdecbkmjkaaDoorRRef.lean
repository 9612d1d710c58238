/-
  The walks of the reference of layer 7: series, eighth, Eighth, Mod, pair, length, Cos, Sin, Root.
-/
import Derived.Test.YtmadbdecbkmjkaaDoorREighth
namespace Go.Proofs.YtmadbdecbkmjkaaDoor
open Go Go.RowKit Go.Fl Go.Roots

theorem F_one : F 1 = 4607182418800017408 := by decide +kernel
theorem F_pred (n : Nat) : F (max n 1) = F n := by
  match n with
  | 0 => exact F_one
  | n + 1 => rw [show max (n + 1) 1 = n + 1 by omega]
theorem C_val (odd j : Nat) : C odd j = fl .quo 4607182418800017408 (F (max (2 * j + odd) 1)) := by rw [F_pred]; rfl
theorem ser_fine (m : Nat) (h : m < 18) : fl .mul (F (m + 1)) (ofInt (m + 1 + 1)) ≠ NAN := by
  have := F_fine (m + 1) (by omega); simpa using this

set_option maxRecDepth 100000 in
set_option maxHeartbeats 800000 in
theorem series_any (y : Nat) (odd : Nat) (ho : odd < 2) (w : World) :
    Calls Tryd.prog 73 #[.float .f64 y, .int .i64 odd] w fun e w' => ∃ r, e = .returned (.float .f64 r) ∧ cn r = horner (cn y) odd ∧ Kp w w' := by
  go_enter Tryd.func73, Tryd.ntmps73
  go_wp2_with fail
  go_loopw [5, 6] (fun p k wr => ∃ j q : Nat, j ≤ 9 ∧ p = .float .f64 q ∧ (1 ≤ j → cn q = hor odd (cn y) (j - 1)) ∧ k = .int .i64 (8 - j) ∧ Kp w wr) (fun _ k _ => (intOf k + 1).toNat)
  case atStart => exact ⟨0, 0, by omega, rfl, fun h => absurd h (by omega), rfl, Kp.refl w⟩
  case round =>
    obtain ⟨j, q, hj, rfl, hq, rfl, hk⟩ := hrel
    by_cases hlt : j < 9
    · obtain ⟨t, ht⟩ : ∃ t : Nat, (8 : Int) - j = t := ⟨8 - j, by omega⟩
      have hjt : j = 8 - t := by omega
      have ht9 : t < 9 := by omega
      rw [ht]
      clear ht
      subst hjt
      have hge : decide ((0 : Int) ≤ (t : Int)) = true := by simp
      go_wp2_with fail
      go_loop [7, 8] (fun f m => ∃ i : Nat, i ≤ 18 ∧ (i + 1 ≤ max (2 * t + odd) 1) ∧ f = .float .f64 (F (i + 1)) ∧ m = .int .i64 (i + 1 + 1)) (fun _ m => 40 - (intOf m).toNat)
      case atStart => exact ⟨0, by omega, by omega, by rw [F_one], rfl⟩
      case round =>
        obtain ⟨i, hi, hi2, rfl, rfl⟩ := hrel
        by_cases hl : i + 2 ≤ 2 * t + odd
        · have hn := ser_fine i (by omega)
          go_wp2_with ((with_reducible apply wpList_flx .mul rfl); exact rfl; exact rfl; exact hn)
          go_round
          case rel => exact ⟨i + 1, by omega, by omega, rfl, by go_num⟩
          case measure => simp [intOf]; omega
        · have hie : i + 1 = max (2 * t + odd) 1 := by omega
          have hn := C_fine (i + 1) (by omega)
          have hv : fl .quo 4607182418800017408 (F (i + 1)) = C odd t := by rw [C_val, hie]
          clear hie
          have hnl : ¬ ((i : Int) + 1 + 1 ≤ 2 * (t : Int) + (odd : Int)) := by omega
          by_cases h8 : t = 8
          · have hb : ((t : Int) == 8) = true := by simp [h8]
            go_wp2_with ((with_reducible apply wpList_flx .quo rfl); exact rfl; exact rfl; exact hn)
            go_roundw
            case rel => exact ⟨1, _, by omega, rfl, fun _ => by rw [C_not odd ho 8 (by omega)]; rfl, by congr 1, hk⟩
            case measure => simp [intOf]; omega
          · have hb : ((t : Int) == 8) = false := by simp; omega
            go_wp2_with (first
              | ((with_reducible apply wpList_flx .quo rfl); exact rfl; exact rfl; exact hn)
              | ((with_reducible apply wpList_fl .mul rfl); exact rfl; exact rfl; intro r1 n1 hr1)
              | ((with_reducible apply wpList_fl .sub rfl); exact rfl; exact rfl; intro r2 n2 hr2))
            go_roundw
            case rel =>
              refine ⟨8 - t + 1, r2, by omega, rfl, fun _ => ?_, by congr 1; try omega, hk.drewN _⟩
              have h7 : t = 7 - (8 - t - 1) := by omega
              rw [h7] at hr2
              rw [show 8 - t + 1 - 1 = (8 - t - 1) + 1 by omega]
              exact hor_step odd y (8 - t - 1) q r1 r2 ho (by omega) (hq (by omega)) hr1 hr2
            case measure => simp [intOf] <;> omega
    · obtain rfl : j = 9 := by omega
      have hq9 := hq (by omega)
      go_wp2_with fail
      go_ret
      exact ⟨q, rfl, hq9, hk⟩

theorem series0_any (y : Nat) (w : World) :
    Calls Tryd.prog 73 #[.float .f64 y, .int .i64 0] w fun e w' => ∃ r, e = .returned (.float .f64 r) ∧ cn r = horner (cn y) 0 ∧ Kp w w' := series_any y 0 (by omega) w
theorem series1_any (y : Nat) (w : World) :
    Calls Tryd.prog 73 #[.float .f64 y, .int .i64 1] w fun e w' => ∃ r, e = .returned (.float .f64 r) ∧ cn r = horner (cn y) 1 ∧ Kp w w' := series_any y 1 (by omega) w
set_option maxRecDepth 100000 in
set_option maxHeartbeats 400000 in
theorem rEighth_any (r n : Int) (w : World) (h0 : 0 ≤ r) (h1 : r ≤ 16777216) (h2 : 1 ≤ n) (h3 : n ≤ 16777216) :
    Calls Tryd.prog 70 #[.int .i64 r, .int .i64 n] w fun e w' => ∃ c s, e = .returned (.tuple #[.float .f64 c, .float .f64 s]) ∧ cn c = (eighth r n).1 ∧ cn s = (eighth r n).2 ∧ Kp w w' := by
  by_cases hr : r = 0
  · have hb : (r == 0) = true := by simpa using hr
    subst hr
    have e1 : eighth 0 n = (ONE, 0) := by unfold eighth; rw [if_pos rfl]
    rw [e1]; clear e1
    go_enter Tryd.func70, Tryd.ntmps70
    go_wp2_with fail
    go_ret2
    exact ⟨_, _, rfl, by decide +kernel, by decide +kernel, Kp.refl _⟩
  · have hb : (r == 0) = false := by simpa using hr
    by_cases hn : 8 * r = n
    · have hb2 : (8 * r == n) = true := by simpa using hn
      have e1 : eighth r n = (HALF, HALF) := by unfold eighth; rw [if_neg hr, if_pos hn]
      rw [e1]; clear e1
      go_enter Tryd.func70, Tryd.ntmps70
      go_wp2_with fail
      go_ret2
      exact ⟨_, _, rfl, by decide +kernel, by decide +kernel, Kp.refl _⟩
    · have hb2 : (8 * r == n) = false := by simpa using hn
      have e1 : eighth r n = eighthG r n := by unfold eighth; rw [if_neg hr, if_neg hn]
      rw [e1]; clear e1
      go_enter Tryd.func70, Tryd.ntmps70
      go_wp2_with (first
        | ((with_reducible apply wpList_fl .mul rfl); exact rfl; exact rfl; intro r1 n1 hr1)
        | ((with_reducible apply wpList_fl .quo rfl); exact rfl; exact rfl; intro r1 n1 hr1)
        | (go_at_call 73; (with_reducible refine (series0_any _ _).mono ?_); rintro e w1 ⟨q, rfl, hq, hk⟩)
        | (go_at_call 73; (with_reducible refine (series1_any _ _).mono ?_); rintro e w1 ⟨q, rfl, hq, hk⟩))
      go_ret2
      refine ⟨_, _, rfl, ?_, ?_, ?_⟩
      · simp only [eighthG, ang, *, fl_mul', fl_quo', cn_PI2, cn_conv]
      · simp only [eighthG, ang, *, fl_mul', fl_quo', cn_PI2, cn_conv]
      · repeat (first | exact Kp.refl _ | refine Kp.drewN ?_ _ | refine Kp.trans ?_ (by assumption))

set_option maxHeartbeats 400000 in
theorem rMod_any (k n : Int) (w : World) (h1 : 1 ≤ n) (h2 : n ≤ 16777216) :
    Calls Tryd.prog 50 #[.int .i64 k, .int .i64 n] w fun e w' => e = .returned (.int .i64 (k % n)) ∧ w = w' := by
  obtain ⟨e, l1, l2⟩ := mod_go k n h1
  have E := Lib.hid e
  clear e
  have hn : (n == 0) = false := by simp; omega
  go_enter Tryd.func50, Tryd.ntmps50
  go_wp2_with fail
  go_ret
  exact ⟨congrArg (fun x => Ending.returned (.int .i64 x)) E.out, rfl⟩

theorem rot0 (p : Nat × Nat) : rot 0 p = p := rfl
theorem rot1 (p : Nat × Nat) : rot 1 p = (neg p.2, p.1) := rfl
theorem rot2 (p : Nat × Nat) : rot 2 p = (neg p.1, neg p.2) := rfl
theorem rot3 (p : Nat × Nat) (h : cn p.2 = p.2) : rot 3 p = (p.2, neg p.1) := by
  show (neg (neg p.2), neg p.1) = _
  rw [neg_neg _ h]

set_option maxRecDepth 100000 in
set_option maxHeartbeats 400000 in
theorem rpair_any (n k : Int) (w : World) (h1 : 1 ≤ n) (h2 : n ≤ 4194304) :
    Calls Tryd.prog 63 #[.int .i64 n, .int .i64 k] w fun e w' => ∃ c s, e = .returned (.tuple #[.float .f64 c, .float .f64 s]) ∧ cn c = (pair n k).1 ∧ cn s = (pair n k).2 ∧ Kp w w' := by
  obtain ⟨d0, d1, m0, m1, q0, q1⟩ := k4_div n k h1
  have hn : (n == 0) = false := by simp; omega
  have hpair : pair n k = (plus (pairP n k).1, plus (pairP n k).2) := rfl
  have hP : pairP n k = rot (4 * (k % n) / n).toNat (octant (4 * (k % n) % n) n) := rfl
  rw [hpair, hP]
  clear hpair hP
  have e0 := cn_0
  have hq : 4 * (k % n) / n = 0 ∨ 4 * (k % n) / n = 1 ∨ 4 * (k % n) / n = 2 ∨ 4 * (k % n) / n = 3 := by omega
  by_cases ho : 2 * (4 * (k % n) % n) ≤ n
  · have hO := cn_octant (4 * (k % n) % n) n
    rw [octant_lo ho] at hO ⊢
    rcases hq with hq | hq | hq | hq
    · rw [hq]
      rw [show (0 : Int).toNat = 0 from rfl, rot0]
      clear hO
      go_enter Tryd.func63, Tryd.ntmps63
      go_wp2_with (go_at_call 50; (with_reducible refine (rMod_any _ _ _ h1 (by omega)).mono ?_); rintro e w1 ⟨rfl, rfl⟩)
      go_quiet (fail)
      go_wp2_with (go_at_call 70; (with_reducible refine (rEighth_any _ _ _ (by omega) (by omega) (by omega) (by omega)).mono ?_); rintro e w1 ⟨c, s, rfl, hc, hs, hk⟩)
      all_goals go_ret2
      all_goals refine ⟨_, _, rfl, ?_, ?_, ?_⟩
      all_goals first | (simp [plus, cn_negFloat, *]; done) | (repeat (first | exact Kp.refl _ | refine Kp.drewN ?_ _ | refine Kp.trans ?_ (by assumption)))
    · rw [hq]
      rw [show (1 : Int).toNat = 1 from rfl, rot1]
      clear hO
      go_enter Tryd.func63, Tryd.ntmps63
      go_wp2_with (go_at_call 50; (with_reducible refine (rMod_any _ _ _ h1 (by omega)).mono ?_); rintro e w1 ⟨rfl, rfl⟩)
      go_quiet (fail)
      go_wp2_with (go_at_call 70; (with_reducible refine (rEighth_any _ _ _ (by omega) (by omega) (by omega) (by omega)).mono ?_); rintro e w1 ⟨c, s, rfl, hc, hs, hk⟩)
      all_goals go_ret2
      all_goals refine ⟨_, _, rfl, ?_, ?_, ?_⟩
      all_goals first | (simp [plus, cn_negFloat, *]; done) | (repeat (first | exact Kp.refl _ | refine Kp.drewN ?_ _ | refine Kp.trans ?_ (by assumption)))
    · rw [hq]
      rw [show (2 : Int).toNat = 2 from rfl, rot2]
      clear hO
      go_enter Tryd.func63, Tryd.ntmps63
      go_wp2_with (go_at_call 50; (with_reducible refine (rMod_any _ _ _ h1 (by omega)).mono ?_); rintro e w1 ⟨rfl, rfl⟩)
      go_quiet (fail)
      go_wp2_with (go_at_call 70; (with_reducible refine (rEighth_any _ _ _ (by omega) (by omega) (by omega) (by omega)).mono ?_); rintro e w1 ⟨c, s, rfl, hc, hs, hk⟩)
      all_goals go_ret2
      all_goals refine ⟨_, _, rfl, ?_, ?_, ?_⟩
      all_goals first | (simp [plus, cn_negFloat, *]; done) | (repeat (first | exact Kp.refl _ | refine Kp.drewN ?_ _ | refine Kp.trans ?_ (by assumption)))
    · rw [hq]
      rw [show (3 : Int).toNat = 3 from rfl, rot3 _ hO.2]
      clear hO
      go_enter Tryd.func63, Tryd.ntmps63
      go_wp2_with (go_at_call 50; (with_reducible refine (rMod_any _ _ _ h1 (by omega)).mono ?_); rintro e w1 ⟨rfl, rfl⟩)
      go_quiet (fail)
      go_wp2_with (go_at_call 70; (with_reducible refine (rEighth_any _ _ _ (by omega) (by omega) (by omega) (by omega)).mono ?_); rintro e w1 ⟨c, s, rfl, hc, hs, hk⟩)
      all_goals go_ret2
      all_goals refine ⟨_, _, rfl, ?_, ?_, ?_⟩
      all_goals first | (simp [plus, cn_negFloat, *]; done) | (repeat (first | exact Kp.refl _ | refine Kp.drewN ?_ _ | refine Kp.trans ?_ (by assumption)))
  · have hO := cn_octant (4 * (k % n) % n) n
    rw [octant_hi ho] at hO ⊢
    rcases hq with hq | hq | hq | hq
    · rw [hq]
      rw [show (0 : Int).toNat = 0 from rfl, rot0]
      clear hO
      go_enter Tryd.func63, Tryd.ntmps63
      go_wp2_with (go_at_call 50; (with_reducible refine (rMod_any _ _ _ h1 (by omega)).mono ?_); rintro e w1 ⟨rfl, rfl⟩)
      go_quiet (fail)
      go_wp2_with (go_at_call 70; (with_reducible refine (rEighth_any _ _ _ (by omega) (by omega) (by omega) (by omega)).mono ?_); rintro e w1 ⟨s, c, rfl, hs, hc, hk⟩)
      all_goals go_ret2
      all_goals refine ⟨_, _, rfl, ?_, ?_, ?_⟩
      all_goals first | (simp [plus, cn_negFloat, *]; done) | (repeat (first | exact Kp.refl _ | refine Kp.drewN ?_ _ | refine Kp.trans ?_ (by assumption)))
    · rw [hq]
      rw [show (1 : Int).toNat = 1 from rfl, rot1]
      clear hO
      go_enter Tryd.func63, Tryd.ntmps63
      go_wp2_with (go_at_call 50; (with_reducible refine (rMod_any _ _ _ h1 (by omega)).mono ?_); rintro e w1 ⟨rfl, rfl⟩)
      go_quiet (fail)
      go_wp2_with (go_at_call 70; (with_reducible refine (rEighth_any _ _ _ (by omega) (by omega) (by omega) (by omega)).mono ?_); rintro e w1 ⟨s, c, rfl, hs, hc, hk⟩)
      all_goals go_ret2
      all_goals refine ⟨_, _, rfl, ?_, ?_, ?_⟩
      all_goals first | (simp [plus, cn_negFloat, *]; done) | (repeat (first | exact Kp.refl _ | refine Kp.drewN ?_ _ | refine Kp.trans ?_ (by assumption)))
    · rw [hq]
      rw [show (2 : Int).toNat = 2 from rfl, rot2]
      clear hO
      go_enter Tryd.func63, Tryd.ntmps63
      go_wp2_with (go_at_call 50; (with_reducible refine (rMod_any _ _ _ h1 (by omega)).mono ?_); rintro e w1 ⟨rfl, rfl⟩)
      go_quiet (fail)
      go_wp2_with (go_at_call 70; (with_reducible refine (rEighth_any _ _ _ (by omega) (by omega) (by omega) (by omega)).mono ?_); rintro e w1 ⟨s, c, rfl, hs, hc, hk⟩)
      all_goals go_ret2
      all_goals refine ⟨_, _, rfl, ?_, ?_, ?_⟩
      all_goals first | (simp [plus, cn_negFloat, *]; done) | (repeat (first | exact Kp.refl _ | refine Kp.drewN ?_ _ | refine Kp.trans ?_ (by assumption)))
    · rw [hq]
      rw [show (3 : Int).toNat = 3 from rfl, rot3 _ hO.2]
      clear hO
      go_enter Tryd.func63, Tryd.ntmps63
      go_wp2_with (go_at_call 50; (with_reducible refine (rMod_any _ _ _ h1 (by omega)).mono ?_); rintro e w1 ⟨rfl, rfl⟩)
      go_quiet (fail)
      go_wp2_with (go_at_call 70; (with_reducible refine (rEighth_any _ _ _ (by omega) (by omega) (by omega) (by omega)).mono ?_); rintro e w1 ⟨s, c, rfl, hs, hc, hk⟩)
      all_goals go_ret2
      all_goals refine ⟨_, _, rfl, ?_, ?_, ?_⟩
      all_goals first | (simp [plus, cn_negFloat, *]; done) | (repeat (first | exact Kp.refl _ | refine Kp.drewN ?_ _ | refine Kp.trans ?_ (by assumption)))
end Go.Proofs.YtmadbdecbkmjkaaDoor
