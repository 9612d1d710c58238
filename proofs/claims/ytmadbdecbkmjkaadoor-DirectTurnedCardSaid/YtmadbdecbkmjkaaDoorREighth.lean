/-
  The walks of roots.eighth, mod, plus, pair.
-/
import Derived.Test.YtmadbdecbkmjkaaDoorRHor
import Derived.Test.YtmadbdecbkmjkaaDoorExt
namespace Go.Proofs.YtmadbdecbkmjkaaDoor
open Go Go.RowKit Go.Fl Go.Roots

set_option maxRecDepth 100000 in
set_option maxHeartbeats 400000 in
theorem eighth_any (r n : Int) (w : World) (h0 : 0 ≤ r) (h1 : r ≤ 16777216) (h2 : 1 ≤ n) (h3 : n ≤ 16777216) :
    Calls Tryd.prog 72 #[.int .i64 r, .int .i64 n] w fun e w' => ∃ c s, e = .returned (.tuple #[.float .f64 c, .float .f64 s]) ∧ cn c = (eighth r n).1 ∧ cn s = (eighth r n).2 ∧ Kp w w' := by
  by_cases hr : r = 0
  · have hb : (r == 0) = true := by simpa using hr
    subst hr
    have e1 : eighth 0 n = (ONE, 0) := by unfold eighth; rw [if_pos rfl]
    rw [e1]; clear e1
    go_enter Tryd.func72, Tryd.ntmps72
    go_wp2_with fail
    go_ret2
    exact ⟨_, _, rfl, by decide +kernel, by decide +kernel, Kp.refl _⟩
  · have hb : (r == 0) = false := by simpa using hr
    by_cases hn : 8 * r = n
    · have hb2 : (8 * r == n) = true := by simpa using hn
      have e1 : eighth r n = (HALF, HALF) := by unfold eighth; rw [if_neg hr, if_pos hn]
      rw [e1]; clear e1
      go_enter Tryd.func72, Tryd.ntmps72
      go_wp2_with fail
      go_ret2
      exact ⟨_, _, rfl, by decide +kernel, by decide +kernel, Kp.refl _⟩
    · have hb2 : (8 * r == n) = false := by simpa using hn
      have e1 : eighth r n = eighthG r n := by unfold eighth; rw [if_neg hr, if_neg hn]
      rw [e1]; clear e1
      go_enter Tryd.func72, Tryd.ntmps72
      go_wp2_with (first
        | ((with_reducible apply wpList_fl .mul rfl); exact rfl; exact rfl; intro r1 n1 hr1)
        | ((with_reducible apply wpList_fl .quo rfl); exact rfl; exact rfl; intro r1 n1 hr1)
        | (go_at_call 74; (with_reducible refine (horner0_any _ _).mono ?_); rintro e w1 ⟨q, rfl, hq, hk⟩)
        | (go_at_call 74; (with_reducible refine (horner1_any _ _).mono ?_); rintro e w1 ⟨q, rfl, hq, hk⟩))
      go_ret2
      refine ⟨_, _, rfl, ?_, ?_, ?_⟩
      · simp only [eighthG, ang, *, fl_mul', fl_quo', cn_PI2, cn_conv]
      · simp only [eighthG, ang, *, fl_mul', fl_quo', cn_PI2, cn_conv]
      · repeat (first | exact Kp.refl _ | refine Kp.drewN ?_ _ | refine Kp.trans ?_ (by assumption))

theorem mod_go (k n : Int) (h1 : 1 ≤ n) : (k.tmod n + n) % n = k % n ∧ -n < k.tmod n ∧ k.tmod n < n := by
  have hl : -n < k.tmod n ∧ k.tmod n < n := by
    have h := Int.tmod_lt_of_pos k (show 0 < n by omega)
    have h' := Int.lt_tmod_of_pos k (show 0 < n by omega)
    omega
  refine ⟨?_, hl.1, hl.2⟩
  rw [Int.add_emod_right]
  rw [Int.tmod_eq_emod]
  split
  · simp
  · rw [Int.sub_emod]
    rw [show ((n.natAbs : Int)) = n from by omega, Int.emod_self, Int.sub_zero, Int.emod_emod_of_dvd _ (Int.dvd_refl n), Int.emod_emod_of_dvd _ (Int.dvd_refl n)]

set_option maxHeartbeats 400000 in
theorem mod_any (k n : Int) (w : World) (h1 : 1 ≤ n) (h2 : n ≤ 16777216) :
    Calls Tryd.prog 71 #[.int .i64 k, .int .i64 n] w fun e w' => e = .returned (.int .i64 (k % n)) ∧ w = w' := by
  obtain ⟨e, l1, l2⟩ := mod_go k n h1
  have E := Lib.hid e
  clear e
  have hn : (n == 0) = false := by simp; omega
  go_enter Tryd.func71, Tryd.ntmps71
  go_wp2_with fail
  go_ret
  exact ⟨congrArg (fun x => Ending.returned (.int .i64 x)) E.out, rfl⟩

set_option maxHeartbeats 400000 in
theorem plus_any (x : Nat) (w : World) :
    Calls Tryd.prog 69 #[.float .f64 x] w fun e w' => ∃ r, e = .returned (.float .f64 r) ∧ cn r = plus (cn x) ∧ w = w' := by
  have e0 := cn_0
  by_cases h : (ord (cn x) 0 == some .eq) = true
  · go_enter Tryd.func69, Tryd.ntmps69
    go_wp2_with fail
    go_ret
    exact ⟨_, rfl, by unfold plus; rw [if_pos h, e0], rfl⟩
  · have h' : (ord (cn x) 0 == some .eq) = false := by simpa using h
    go_enter Tryd.func69, Tryd.ntmps69
    go_wp2_with fail
    go_ret
    exact ⟨_, rfl, by unfold plus; rw [if_neg h], rfl⟩

theorem k4_div (n k : Int) (h1 : 1 ≤ n) : 0 ≤ 4 * (k % n) / n ∧ 4 * (k % n) / n ≤ 3 ∧ 0 ≤ k % n ∧ k % n < n ∧ 0 ≤ 4 * (k % n) % n ∧ 4 * (k % n) % n < n := by
  have a := Int.emod_nonneg k (show n ≠ 0 by omega)
  have b := Int.emod_lt_of_pos k (show 0 < n by omega)
  have c := Int.emod_nonneg (4 * (k % n)) (show n ≠ 0 by omega)
  have d := Int.emod_lt_of_pos (4 * (k % n)) (show 0 < n by omega)
  refine ⟨Int.ediv_nonneg (by omega) (by omega), ?_, a, b, c, d⟩
  have : 4 * (k % n) / n < 4 := Int.ediv_lt_of_lt_mul (by omega) (by omega)
  omega

theorem octant_lo {r n : Int} (h : 2 * r ≤ n) : octant r n = eighth r (4 * n) := by unfold octant; rw [if_pos h]
theorem octant_hi {r n : Int} (h : ¬ 2 * r ≤ n) : octant r n = ((eighth (n - r) (4 * n)).2, (eighth (n - r) (4 * n)).1) := by unfold octant; rw [if_neg h]

set_option maxRecDepth 100000 in
set_option maxHeartbeats 400000 in
theorem pair_any (n k : Int) (w : World) (h1 : 1 ≤ n) (h2 : n ≤ 4194304) :
    Calls Tryd.prog 68 #[.int .i64 n, .int .i64 k] w fun e w' => ∃ c s, e = .returned (.tuple #[.float .f64 c, .float .f64 s, .nilIface]) ∧ cn c = (pair n k).1 ∧ cn s = (pair n k).2 ∧ Kp w w' := by
  obtain ⟨d0, d1, m0, m1, q0, q1⟩ := k4_div n k h1
  have hn : (n == 0) = false := by simp; omega
  have hpair : pair n k = (plus (pairP n k).1, plus (pairP n k).2) := rfl
  have hP : pairP n k = rot (4 * (k % n) / n).toNat (octant (4 * (k % n) % n) n) := rfl
  rw [hpair, hP]
  clear hpair hP
  have b1 : decide (n < 1) = false := by simp; omega
  have b2 : decide (4194304 < n) = false := by simp; omega
  by_cases ho : 2 * (4 * (k % n) % n) ≤ n
  · rw [octant_lo ho]
    go_enter Tryd.func68, Tryd.ntmps68
    go_wp2_with (first
      | (go_at_call 71; (with_reducible refine (mod_any _ _ _ h1 (by omega)).mono ?_); rintro e w1 ⟨rfl, rfl⟩)
      | (go_at_call 72; (with_reducible refine (eighth_any _ _ _ (by omega) (by omega) (by omega) (by omega)).mono ?_); rintro e w1 ⟨c0, s0, rfl, hc, hs, hk⟩))
    obtain ⟨q, hq⟩ := Int.eq_ofNat_of_zero_le d0
    have hqq : (4 * (k % n) / n).toNat = q := by rw [hq]; rfl
    have HQ := Lib.hid hqq
    rw [hq]
    rw [hq] at d1
    clear hq d0 hqq
    have hc' : cn c0 = (eighth (4 * (k % n) % n) (4 * n)).1 := hc
    have hs' : cn s0 = (eighth (4 * (k % n) % n) (4 * n)).2 := hs
    go_loop [9, 10, 48] (fun c s i => ∃ (j x y : Nat), j ≤ q ∧ c = .float .f64 x ∧ s = .float .f64 y ∧ i = .int .i64 j ∧ cn x = (rot j (eighth (4 * (k % n) % n) (4 * n))).1 ∧ cn y = (rot j (eighth (4 * (k % n) % n) (4 * n))).2) (fun _ _ i => q - (intOf i).toNat)
    case atStart => exact ⟨0, _, _, Nat.zero_le _, rfl, rfl, rfl, hc', hs'⟩
    case round =>
      obtain ⟨j, x, y, hj, rfl, rfl, rfl, hx, hy⟩ := hrel
      by_cases hlt : j < q
      · go_wp2_with fail
        go_round
        case rel => exact ⟨j + 1, _, x, by omega, rfl, rfl, by go_num, by rw [cn_negFloat, hy]; rfl, hx⟩
        case measure => simp [intOf]; omega
      · obtain rfl : j = q := by omega
        go_wp2_with (go_at_call 69; (with_reducible refine (plus_any _ _).mono ?_); rintro e w2 ⟨r, rfl, hr, rfl⟩)
        go_ret3
        refine ⟨_, _, rfl, ?_, ?_, hk⟩
        · rw [HQ.out]; simp only [*]
        · rw [HQ.out]; simp only [*]
  · rw [octant_hi ho]
    go_enter Tryd.func68, Tryd.ntmps68
    go_wp2_with (first
      | (go_at_call 71; (with_reducible refine (mod_any _ _ _ h1 (by omega)).mono ?_); rintro e w1 ⟨rfl, rfl⟩)
      | (go_at_call 72; (with_reducible refine (eighth_any _ _ _ (by omega) (by omega) (by omega) (by omega)).mono ?_); rintro e w1 ⟨s0, c0, rfl, hs, hc, hk⟩))
    obtain ⟨q, hq⟩ := Int.eq_ofNat_of_zero_le d0
    have hqq : (4 * (k % n) / n).toNat = q := by rw [hq]; rfl
    have HQ := Lib.hid hqq
    rw [hq]
    rw [hq] at d1
    clear hq d0 hqq
    have hc' : cn c0 = ((eighth (n - 4 * (k % n) % n) (4 * n)).2, (eighth (n - 4 * (k % n) % n) (4 * n)).1).1 := hc
    have hs' : cn s0 = ((eighth (n - 4 * (k % n) % n) (4 * n)).2, (eighth (n - 4 * (k % n) % n) (4 * n)).1).2 := hs
    go_loop [9, 10, 48] (fun c s i => ∃ (j x y : Nat), j ≤ q ∧ c = .float .f64 x ∧ s = .float .f64 y ∧ i = .int .i64 j ∧ cn x = (rot j ((eighth (n - 4 * (k % n) % n) (4 * n)).2, (eighth (n - 4 * (k % n) % n) (4 * n)).1)).1 ∧ cn y = (rot j ((eighth (n - 4 * (k % n) % n) (4 * n)).2, (eighth (n - 4 * (k % n) % n) (4 * n)).1)).2) (fun _ _ i => q - (intOf i).toNat)
    case atStart => exact ⟨0, _, _, Nat.zero_le _, rfl, rfl, rfl, hc', hs'⟩
    case round =>
      obtain ⟨j, x, y, hj, rfl, rfl, rfl, hx, hy⟩ := hrel
      by_cases hlt : j < q
      · go_wp2_with fail
        go_round
        case rel => exact ⟨j + 1, _, x, by omega, rfl, rfl, by go_num, by rw [cn_negFloat, hy]; rfl, hx⟩
        case measure => simp [intOf]; omega
      · obtain rfl : j = q := by omega
        go_wp2_with (go_at_call 69; (with_reducible refine (plus_any _ _).mono ?_); rintro e w2 ⟨r, rfl, hr, rfl⟩)
        go_ret3
        refine ⟨_, _, rfl, ?_, ?_, hk⟩
        · rw [HQ.out]; simp only [*]
        · rw [HQ.out]; simp only [*]
end Go.Proofs.YtmadbdecbkmjkaaDoor
