/-
  primes.Smooth at 2, chirp.Size and the reference's Size (seat 13's texts, by gen/osize.py).
-/
import Derived.Test.YtgjlldapnodfbaaDoorOMap
import Derived.BigQuiet
namespace Go.Proofs.YtgjlldapnodfbaaDoor
open Go Go.RowKit Go.Fl Go.Pr

def fineB (n : Nat) (most : Int) : Bool := (facts n).all fun q => decide ((q : Int) ≤ most)
theorem fine_end {n p : Nat} {most : Int} (h0 : 0 < n) (h2 : 2 ≤ most) (hno : ∀ q, 2 ≤ q → q < p → ¬ q ∣ n) (h : most < p ∨ n < p * p) : fineB n most = decide ((n : Int) ≤ most) := by
  rcases Nat.lt_or_ge n 2 with h1 | h1
  · unfold fineB
    rw [facts_small h1]
    symm
    exact decide_eq_true (by omega)
  · by_cases hp : n < p * p
    · unfold fineB
      rw [facts_pri (pri_of_root h1 hno hp)]
      simp
    · have hm : most < p := h.resolve_right hp
      obtain ⟨a, b, c⟩ := minFac_spec h1
      have hge : p ≤ minFac n := Nat.le_of_not_lt fun h => hno _ b h a
      have hle := Nat.le_of_dvd h0 a
      have e1 : decide ((n : Int) ≤ most) = false := decide_eq_false (by omega)
      rw [e1]
      unfold fineB
      rw [facts_step h1, List.all_cons, decide_eq_false (by omega), Bool.false_and]
theorem fine_pull {n p : Nat} {most : Int} (hp : 2 ≤ p) (hd : n % p = 0) (hn : 0 < n) (hno : ∀ q, 2 ≤ q → q < p → ¬ q ∣ n) (hm : (p : Int) ≤ most) : fineB n most = fineB (n / p) most ∧ 0 < n / p ∧ n / p < n ∧ ∀ q, 2 ≤ q → q < p → ¬ q ∣ n / p := by
  obtain ⟨f1, f2, f3, f4⟩ := facts_pull hp hd hn hno
  refine ⟨?_, f2, f3, f4⟩
  unfold fineB
  rw [f1, List.all_cons, decide_eq_true hm, Bool.true_and]
theorem pow2_near : ∀ n, 1 ≤ n → ∃ k, n ≤ 2 ^ k ∧ 2 ^ k < 2 * n
  | 0, h => by omega
  | 1, _ => ⟨0, by decide, by decide⟩
  | n + 2, _ => by
    obtain ⟨k, h1, h2⟩ := pow2_near (n + 1) (by omega)
    by_cases h : n + 2 ≤ 2 ^ k
    · exact ⟨k, h, by omega⟩
    · exact ⟨k + 1, by rw [Nat.pow_succ]; omega, by rw [Nat.pow_succ]; omega⟩
theorem fine_pow2 (k : Nat) {most : Int} (h : 2 ≤ most) : fineB (2 ^ k) most = true := by
  unfold fineB
  rw [List.all_eq_true]
  intro q hq
  obtain ⟨h1, h2⟩ := facts_mem hq
  have := Nat.le_of_dvd (by omega) (h1.dvd_pow k h2)
  exact decide_eq_true (by omega)
/-- The least smooth number from n on. -/
def IsSmooth (n : Nat) (most : Int) (x : Nat) : Prop := n ≤ x ∧ (x = n ∨ x < 2 * n) ∧ fineB x most = true ∧ ∀ k, n ≤ k → k < x → fineB k most = false
set_option maxRecDepth 100000 in
set_option maxHeartbeats 2000000 in
theorem fine_any (N : Nat) (most : Int) (w : World) (h0 : 0 < N) (h1 : N ≤ 4194304) (h2 : 2 ≤ most) (h3 : most ≤ 9223372036854775807) :
    Calls Tryd.prog 85 #[.int .i64 N, .int .i64 most] w fun e w' => e = .returned (.bool (fineB N most)) ∧ w = w' := by
  go_enter Tryd.func85, Tryd.ntmps85
  go_wp2_with fail
  go_loop [0, 5] (fun x y => ∃ n p : Nat, x = .int .i64 n ∧ y = .int .i64 p ∧ 0 < n ∧ n ≤ 4194304 ∧ 2 ≤ p ∧ p ≤ 2049 ∧ Hid (fineB n most = fineB N most) ∧ Hid (∀ q, 2 ≤ q → q < p → ¬ q ∣ n)) (fun _ y => 2050 - (intOf y).toNat)
  case atStart => exact ⟨N, 2, rfl, rfl, h0, h1, by omega, by omega, Lib.hid rfl, Lib.hid fun q h1 h2 => by omega⟩
  case round =>
    obtain ⟨n, p, rfl, rfl, hn0, hn, hp2, hp, HF, HN⟩ := hrel
    obtain ⟨P, hP⟩ : ∃ P, p * p = P := ⟨_, rfl⟩
    have hPb : P ≤ 4198401 := by rw [← hP]; exact Nat.mul_le_mul hp hp
    have e1 : IntKind.i64.wrap ((p : Int) * (p : Int)) = (P : Int) := by rw [← Int.natCast_mul, hP]; exact IntWalk.i64_in _ (by omega)
    have HPP := Lib.hid hP
    clear hP
    by_cases hend : most < p ∨ n < P
    · have HE := Lib.hid (HF.out.symm.trans (fine_end hn0 h2 HN.out (by rw [HPP.out]; exact hend)))
      by_cases hm : most < p
      · have d1 : decide ((p : Int) ≤ most) = false := by simp; omega
        clear hend
        go_wp2_with fail
        go_ret
        exact ⟨by rw [HE.out]; rfl, rfl⟩
      · have d1 : decide ((p : Int) ≤ most) = true := by simp; omega
        have hnP : n < P := hend.resolve_left hm
        have d2 : decide ((P : Int) ≤ (n : Int)) = false := by simp; omega
        have d2' : ¬ P ≤ n := by omega
        clear hend
        go_wp2_with fail
        go_ret
        exact ⟨by rw [HE.out]; rfl, rfl⟩
    · have hm : (p : Int) ≤ most := by omega
      have hle : P ≤ n := by omega
      have d1 : decide ((p : Int) ≤ most) = true := by simp; omega
      have hp6 : p ≤ 2048 := by
        refine Nat.le_of_not_lt fun h => ?_
        have := Nat.mul_le_mul (show 2049 ≤ p from h) (show 2049 ≤ p from h)
        have := HPP.out
        omega
      clear hend
      go_wp2_with fail
      go_loop [0] (fun x => ∃ n : Nat, x = .int .i64 n ∧ 0 < n ∧ n ≤ 4194304 ∧ Hid (fineB n most = fineB N most) ∧ Hid (∀ q, 2 ≤ q → q < p → ¬ q ∣ n)) (fun x => (intOf x).toNat)
      case atStart => exact ⟨n, rfl, hn0, hn, HF, HN⟩
      case round =>
        clear hle HF HN hn hn0
        obtain ⟨n, rfl, hn0, hn, HF, HN⟩ := hrel
        by_cases hd : n % p = 0
        · obtain ⟨f1, f2, f3, f4⟩ := fine_pull hp2 hd hn0 HN.out hm
          have d3 : ((n : Int) % (p : Int) == 0) = true := by rw [← Int.natCast_emod, hd]; rfl
          obtain ⟨m, hmm⟩ : ∃ m, n / p = m := ⟨_, rfl⟩
          rw [hmm] at f1 f2 f3 f4
          have e3 : IntKind.i64.wrap ((n : Int) / (p : Int)) = (m : Int) := by rw [← Int.natCast_ediv, hmm]; exact IntWalk.i64_in _ (by omega)
          have HF1 := Lib.hid (f1.symm.trans HF.out)
          have HF4 := Lib.hid f4
          clear f1 f4 hd hmm
          go_wp2_with fail
          go_round
          case rel => exact ⟨m, rfl, f2, by omega, HF1, HF4⟩
          case measure => simp [intOf]; omega
        · have d3 : ((n : Int) % (p : Int) == 0) = false := by rw [← Int.natCast_emod, beq_eq_false_iff_ne]; omega
          have HN' : Hid (∀ q, 2 ≤ q → q < p + 1 → ¬ q ∣ n) := Lib.hid fun q h1 h2 hq => by
            rcases Nat.lt_or_ge q p with h4 | h4
            · exact HN.out q h1 h4 hq
            · obtain rfl : q = p := by omega
              exact hd (Nat.mod_eq_zero_of_dvd hq)
          clear hd
          go_wp2_with fail
          go_round
          case rel => exact ⟨n, p + 1, rfl, by go_num, hn0, hn, by omega, by omega, HF, HN'⟩
          case measure => simp [intOf]; omega
set_option maxHeartbeats 800000 in
theorem Smooth_any (n : Nat) (most : Int) (w : World) (h0 : 1 ≤ n) (h1 : n ≤ 1048576) (h2 : 2 ≤ most) (h3 : most ≤ 9223372036854775807) :
    Calls Tryd.prog 74 #[.int .i64 n, .int .i64 most] w fun e w' => ∃ x : Nat, e = .returned (.tuple #[.int .i64 x, .nilIface]) ∧ Hid (IsSmooth n most x) ∧ w = w' := by
  obtain ⟨K, g1, g2⟩ := pow2_near n h0
  obtain ⟨G, hG⟩ : ∃ G, 2 ^ K = G := ⟨_, rfl⟩
  have hGf := fine_pow2 K h2
  rw [hG] at g1 g2 hGf
  have HG := Lib.hid hGf
  clear hG hGf
  have d1 : decide ((n : Int) < 1) = false := by simp; omega
  have d2 : decide ((1048576 : Int) < n) = false := by simp; omega
  have d3 : decide (most < 2) = false := by simp; omega
  go_enter Tryd.func74, Tryd.ntmps74
  go_wp2_with fail
  go_loop [0] (fun x => ∃ k : Nat, x = .int .i64 k ∧ n ≤ k ∧ k ≤ G ∧ Hid (∀ j, n ≤ j → j < k → fineB j most = false)) (fun x => G + 1 - (intOf x).toNat)
  case atStart => exact ⟨n, rfl, by omega, g1, Lib.hid fun j a b => by omega⟩
  case round =>
    obtain ⟨k, rfl, hk, hkG, HK⟩ := hrel
    cases hf : fineB k most with
    | true =>
      have HC : Hid (∀ w', Calls Tryd.prog 85 #[.int .i64 k, .int .i64 most] w' fun e w'' => e = .returned (.bool true) ∧ w' = w'') := Lib.hid fun w' => by have := fine_any k most w' (by omega) (by omega) h2 h3; rw [hf] at this; exact this
      have HF := Lib.hid hf
      clear hf
      go_wp2_with (go_at_call 85; (with_reducible refine (HC.out _).mono ?_); rintro e w1 ⟨rfl, rfl⟩)
      go_ret2
      exact ⟨k, rfl, Lib.hid ⟨hk, by omega, HF.out, HK.out⟩, rfl⟩
    | false =>
      have hlt : k < G := by
        refine Nat.lt_of_le_of_ne hkG fun e => ?_
        rw [e, HG.out] at hf; cases hf
      have HC : Hid (∀ w', Calls Tryd.prog 85 #[.int .i64 k, .int .i64 most] w' fun e w'' => e = .returned (.bool false) ∧ w' = w'') := Lib.hid fun w' => by have := fine_any k most w' (by omega) (by omega) h2 h3; rw [hf] at this; exact this
      have HF := Lib.hid hf
      clear hf
      go_wp2_with (go_at_call 85; (with_reducible refine (HC.out _).mono ?_); rintro e w1 ⟨rfl, rfl⟩)
      go_round
      case rel => exact ⟨k + 1, by go_num, by omega, by omega, Lib.hid fun j a b => by
        rcases Nat.lt_or_ge j k with c | c
        · exact HK.out j a c
        · obtain rfl : j = k := by omega
          exact HF.out⟩
      case measure => simp [intOf]; omega
/-- A number whose primes are at most 2 is a power of two. -/
theorem prod_two : ∀ l : List Nat, (∀ q ∈ l, q = 2) → l.prod = 2 ^ l.length
  | [], _ => rfl
  | q :: l, h => by
    rw [List.prod_cons, prod_two l fun q hq => h q (List.mem_cons_of_mem _ hq), h q (List.mem_cons_self ..), List.length_cons, Nat.pow_succ, Nat.mul_comm]
theorem fine_two {x : Nat} (hx : 1 ≤ x) (h : fineB x 2 = true) : ∃ a, x = 2 ^ a := by
  refine ⟨(facts x).length, ?_⟩
  rw [← prod_two (facts x) ?_, facts_prod x hx]
  intro q hq
  unfold fineB at h
  rw [List.all_eq_true] at h
  have h1 := of_decide_eq_true (h q hq)
  have h2 := (facts_mem hq).1.1
  omega
/-- The least power of two from n on. -/
def IsTwo (n x : Nat) : Prop := n ≤ x ∧ x < 2 * n ∧ ∃ a, x = 2 ^ a
theorem two_uniq {n x y : Nat} (hx : IsTwo n x) (hy : IsTwo n y) : x = y := by
  obtain ⟨a1, a2, a, rfl⟩ := hx
  obtain ⟨b1, b2, b, rfl⟩ := hy
  rcases Nat.lt_trichotomy a b with h | rfl | h
  · have := Nat.pow_le_pow_right (show 0 < 2 by decide) (show a + 1 ≤ b from h)
    rw [Nat.pow_succ] at this
    omega
  · rfl
  · have := Nat.pow_le_pow_right (show 0 < 2 by decide) (show b + 1 ≤ a from h)
    rw [Nat.pow_succ] at this
    omega
theorem smooth_two {n x : Nat} (hn : 1 ≤ n) (h : IsSmooth n 2 x) : IsTwo n x := by
  obtain ⟨h1, h2, h3, _⟩ := h
  exact ⟨h1, by omega, fine_two (by omega) h3⟩
theorem two_top {n x : Nat} (h : IsTwo n x) (hn : n ≤ 16384) : x ≤ 16384 := by
  obtain ⟨_, h2, a, rfl⟩ := h
  rcases Nat.lt_or_ge 14 a with c | c
  · have := Nat.pow_le_pow_right (show 0 < 2 by decide) (show 15 ≤ a from c)
    omega
  · exact Nat.pow_le_pow_right (show 0 < 2 by decide) c
set_option maxRecDepth 100000 in
set_option maxHeartbeats 1000000 in
theorem CSize_any (n : Nat) (w : World) (h1 : 1 ≤ n) (h2 : n ≤ 8192) :
    Calls Tryd.prog 50 #[.int .i64 n] w fun e w' => ∃ x : Nat, e = .returned (.tuple #[.int .i64 x, .nilIface]) ∧ Hid (IsTwo (2 * n - 1) x ∧ x ≤ 16384) ∧ w = w' := by
  have b1 : decide ((n : Int) < 1) = false := by simp; omega
  have b2 : decide ((16384 : Int) < n) = false := by simp; omega
  obtain ⟨N, hN⟩ : ∃ N, 2 * n - 1 = N := ⟨_, rfl⟩
  have eN : 2 * (n : Int) - 1 = (N : Int) := by omega
  have hS : Hid (∀ w, Calls Tryd.prog 74 #[.int .i64 N, .int .i64 2] w fun e w' => ∃ x : Nat, e = .returned (.tuple #[.int .i64 x, .nilIface]) ∧ x ≤ 16384 ∧ Hid (IsTwo N x ∧ x ≤ 16384) ∧ w = w') := Lib.hid fun w => by
    refine (Smooth_any N 2 w (by omega) (by omega) (by omega) (by omega)).mono ?_
    rintro e w1 ⟨x, rfl, hx, rfl⟩
    have h3 := smooth_two (by omega) hx.out
    exact ⟨x, rfl, two_top h3 (by omega), Lib.hid ⟨h3, two_top h3 (by omega)⟩, rfl⟩
  rw [hN]
  clear hN
  go_enter Tryd.func50, Tryd.ntmps50
  go_wp2_with (go_at_call 74; (with_reducible refine (hS.out _).mono ?_); rintro e w1 ⟨x, rfl, hx, HX, rfl⟩)
  go_ret2
  exact ⟨x, rfl, HX, rfl⟩
set_option maxRecDepth 100000 in
set_option maxHeartbeats 1000000 in
theorem CSize_bad (n : Int) (aL : Addr) (w : World) (hL : errAt w 1 aL) (h : n < 1 ∨ 8192 < n) :
    Calls Tryd.prog 50 #[.int .i64 n] w fun e w' => e = .returned (.tuple #[.int .i64 0, .iface 114 (.pointer (some aL))]) ∧ Kp w w' := by
  unfold errAt at hL
  by_cases c1 : n < 1
  · have b1 : decide (n < 1) = true := by simpa using c1
    clear h
    go_enter Tryd.func50, Tryd.ntmps50
    go_wp2_with fail
    go_quiet (fail)
    go_wp2_with fail
    go_ret2
    exact ⟨rfl, (Kp.refl _).drewN _⟩
  have b1 : decide (n < 1) = false := by simpa using c1
  by_cases c2 : 16384 < n
  · have b2 : decide (16384 < n) = true := by simpa using c2
    clear h
    go_enter Tryd.func50, Tryd.ntmps50
    go_wp2_with fail
    go_quiet (fail)
    go_wp2_with fail
    go_ret2
    exact ⟨rfl, (Kp.refl _).drewN _⟩
  have b2 : decide (16384 < n) = false := by simpa using c2
  obtain ⟨N, hN⟩ := Int.eq_ofNat_of_zero_le (show 0 ≤ 2 * n - 1 by omega)
  have hS : Hid (∀ w, Calls Tryd.prog 74 #[.int .i64 N, .int .i64 2] w fun e w' => ∃ x : Nat, e = .returned (.tuple #[.int .i64 x, .nilIface]) ∧ 16384 < x ∧ decide ((16384 : Int) < (x : Int)) = true ∧ w = w') := Lib.hid fun w => by
    refine (Smooth_any N 2 w (by omega) (by omega) (by omega) (by omega)).mono ?_
    rintro e w1 ⟨x, rfl, hx, rfl⟩
    have h3 := hx.out.1
    exact ⟨x, rfl, by omega, by simp; omega, rfl⟩
  clear h c1
  go_enter Tryd.func50, Tryd.ntmps50
  go_wp2_with (go_at_call 74; (with_reducible refine (hS.out _).mono ?_); rintro e w1 ⟨x, rfl, hx, dx, rfl⟩)
  go_quiet (fail)
  go_wp2_with fail
  go_ret2
  exact ⟨rfl, (Kp.refl _).drewN _⟩
set_option maxRecDepth 100000 in
set_option maxHeartbeats 1000000 in
theorem rSize_go (n : Nat) (w : World) (h1 : 1 ≤ n) (h2 : n ≤ 16384) :
    Calls Tryd.prog 56 #[.int .i64 n] w fun e w' => ∃ x : Nat, Hid (IsTwo (2 * n - 1) x) ∧ e = .returned (if 16384 < x then .tuple #[.int .i64 0, .int .i64 7] else .tuple #[.int .i64 x, .int .i64 0]) ∧ w = w' := by
  have b1 : decide ((n : Int) < 1) = false := by simp; omega
  have b2 : decide ((16384 : Int) < n) = false := by simp; omega
  obtain ⟨N, hN⟩ : ∃ N, 2 * n - 1 = N := ⟨_, rfl⟩
  have eN : 2 * (n : Int) - 1 = (N : Int) := by omega
  have hNb : 1 ≤ N ∧ N ≤ 32767 := by omega
  rw [hN]
  clear hN
  go_enter Tryd.func56, Tryd.ntmps56
  go_wp2_with fail
  go_loop [4] (fun x => ∃ k : Nat, x = .int .i64 k ∧ k < 2 * N ∧ 1 ≤ k ∧ Hid (∃ a, k = 2 ^ a)) (fun x => 2 * N - (intOf x).toNat)
  case atStart => exact ⟨1, rfl, by omega, by omega, Lib.hid ⟨0, rfl⟩⟩
  case round =>
    obtain ⟨k, rfl, hk, hk1, HK⟩ := hrel
    by_cases hlt : k < N
    · go_wp2_with fail
      go_round
      case rel => exact ⟨2 * k, by go_num, by omega, by omega, Lib.hid (by obtain ⟨a, ha⟩ := HK.out; exact ⟨a + 1, by rw [Nat.pow_succ, ← ha, Nat.mul_comm]⟩)⟩
      case measure => simp [intOf]; omega
    · by_cases hb : 16384 < k
      · have d : decide ((16384 : Int) < (k : Int)) = true := by simp; omega
        go_wp2_with fail
        go_ret2
        exact ⟨k, Lib.hid ⟨by omega, hk, HK.out⟩, by simp [hb], rfl⟩
      · have d : decide ((16384 : Int) < (k : Int)) = false := by simp; omega
        go_wp2_with fail
        go_ret2
        exact ⟨k, Lib.hid ⟨by omega, hk, HK.out⟩, by simp [hb], rfl⟩
theorem rSize_any (n : Nat) (x : Nat) (w : World) (h1 : 1 ≤ n) (h2 : n ≤ 8192) (hx : IsTwo (2 * n - 1) x) :
    Calls Tryd.prog 56 #[.int .i64 n] w fun e w' => e = .returned (.tuple #[.int .i64 x, .int .i64 0]) ∧ w = w' := by
  refine (rSize_go n w h1 (by omega)).mono ?_
  rintro e w1 ⟨y, hy, rfl, rfl⟩
  obtain rfl := two_uniq hx hy.out
  have := two_top hx (by omega)
  exact ⟨by rw [if_neg (by omega)], rfl⟩
theorem rSize_bad (n : Int) (w : World) (h : n < 1 ∨ 8192 < n) :
    Calls Tryd.prog 56 #[.int .i64 n] w fun e w' => e = .returned (.tuple #[.int .i64 0, .int .i64 7]) ∧ Kp w w' := by
  by_cases c1 : n < 1
  · have b1 : decide (n < 1) = true := by simpa using c1
    clear h
    go_enter Tryd.func56, Tryd.ntmps56
    go_wp2_with fail
    go_ret2
    exact ⟨rfl, Kp.refl _⟩
  have b1 : decide (n < 1) = false := by simpa using c1
  by_cases c2 : 16384 < n
  · have b2 : decide (16384 < n) = true := by simpa using c2
    clear h
    go_enter Tryd.func56, Tryd.ntmps56
    go_wp2_with fail
    go_ret2
    exact ⟨rfl, Kp.refl _⟩
  obtain ⟨m, rfl⟩ := Int.eq_ofNat_of_zero_le (show 0 ≤ n by omega)
  refine (rSize_go m w (by omega) (by omega)).mono ?_
  rintro e w1 ⟨y, hy, rfl, rfl⟩
  have := hy.out.1
  exact ⟨by rw [if_pos (by omega)], Kp.refl _⟩
end Go.Proofs.YtgjlldapnodfbaaDoor
