/-
  The walk of primes.Smooth at 2, and the least power of two.
-/
import Derived.Test.YtnkcjbabfckdgaaDoorPNum
import Derived.Test.YtnkcjbabfckdgaaDoorW
import Derived.Test.YtnkcjbabfckdgaaDoorProg
namespace Go.Proofs.YtnkcjbabfckdgaaDoor
open Go Go.RowKit Go.Fl Go.Pr

theorem facts_pull {n p : Nat} (hp : 2 ≤ p) (hd : n % p = 0) (hn : 0 < n) (hno : ∀ q, 2 ≤ q → q < p → ¬ q ∣ n) : facts n = p :: facts (n / p) ∧ 0 < n / p ∧ n / p < n ∧ ∀ q, 2 ≤ q → q < p → ¬ q ∣ n / p := by
  have h := Nat.dvd_of_mod_eq_zero hd
  refine ⟨facts_cons hp h hno hn, Nat.div_pos (Nat.le_of_dvd hn h) (by omega), Nat.div_lt_self hn hp, fun q h1 h2 h3 => hno q h1 h2 (Nat.dvd_trans h3 (Nat.div_dvd_of_dvd h))⟩
def fineB (n : Nat) (most : Int) : Bool := (facts n).all fun q => decide ((q : Int) ≤ most)
theorem fine_end {n p : Nat} {most : Int} (h0 : 0 < n) (h2 : 2 ≤ most) (hno : ∀ q, 2 ≤ q → q < p → ¬ q ∣ n) (h : most < p ∨ n < p * p) : fineB n most = decide ((n : Int) ≤ most) := by
  rcases Nat.lt_or_ge n 2 with h1 | h1
  · unfold fineB
    rw [facts_small h1]
    symm
    exact decide_eq_true (by omega)
  · by_cases hp : n < p * p
    · unfold fineB
      rw [facts_pri (pri_of_root h1 hno hp)]
      simp
    · have hm : most < p := h.resolve_right hp
      obtain ⟨a, b, c⟩ := minFac_spec h1
      have hge : p ≤ minFac n := Nat.le_of_not_lt fun h => hno _ b h a
      have hle := Nat.le_of_dvd h0 a
      have e1 : decide ((n : Int) ≤ most) = false := decide_eq_false (by omega)
      rw [e1]
      unfold fineB
      rw [facts_step h1, List.all_cons, decide_eq_false (by omega), Bool.false_and]
theorem fine_pull {n p : Nat} {most : Int} (hp : 2 ≤ p) (hd : n % p = 0) (hn : 0 < n) (hno : ∀ q, 2 ≤ q → q < p → ¬ q ∣ n) (hm : (p : Int) ≤ most) : fineB n most = fineB (n / p) most ∧ 0 < n / p ∧ n / p < n ∧ ∀ q, 2 ≤ q → q < p → ¬ q ∣ n / p := by
  obtain ⟨f1, f2, f3, f4⟩ := facts_pull hp hd hn hno
  refine ⟨?_, f2, f3, f4⟩
  unfold fineB
  rw [f1, List.all_cons, decide_eq_true hm, Bool.true_and]
theorem pow2_near : ∀ n, 1 ≤ n → ∃ k, n ≤ 2 ^ k ∧ 2 ^ k < 2 * n
  | 0, h => by omega
  | 1, _ => ⟨0, by decide, by decide⟩
  | n + 2, _ => by
    obtain ⟨k, h1, h2⟩ := pow2_near (n + 1) (by omega)
    by_cases h : n + 2 ≤ 2 ^ k
    · exact ⟨k, h, by omega⟩
    · exact ⟨k + 1, by rw [Nat.pow_succ]; omega, by rw [Nat.pow_succ]; omega⟩
theorem fine_pow2 (k : Nat) {most : Int} (h : 2 ≤ most) : fineB (2 ^ k) most = true := by
  unfold fineB
  rw [List.all_eq_true]
  intro q hq
  obtain ⟨h1, h2⟩ := facts_mem hq
  have := Nat.le_of_dvd (by omega) (h1.dvd_pow k h2)
  exact decide_eq_true (by omega)
/-- The least smooth number from n on. -/
def IsSmooth (n : Nat) (most : Int) (x : Nat) : Prop := n ≤ x ∧ (x = n ∨ x < 2 * n) ∧ fineB x most = true ∧ ∀ k, n ≤ k → k < x → fineB k most = false
set_option maxRecDepth 100000 in
set_option maxHeartbeats 2000000 in
theorem fine_any (N : Nat) (most : Int) (w : World) (h0 : 0 < N) (h1 : N ≤ 4194304) (h2 : 2 ≤ most) (h3 : most ≤ 9223372036854775807) :
    Calls Tryd.prog 46 #[.int .i64 N, .int .i64 most] w fun e w' => e = .returned (.bool (fineB N most)) ∧ w = w' := by
  go_enter Tryd.func46, Tryd.ntmps46
  go_wp2_with fail
  go_loop [0, 5] (fun x y => ∃ n p : Nat, x = .int .i64 n ∧ y = .int .i64 p ∧ 0 < n ∧ n ≤ 4194304 ∧ 2 ≤ p ∧ p ≤ 2049 ∧ Hid (fineB n most = fineB N most) ∧ Hid (∀ q, 2 ≤ q → q < p → ¬ q ∣ n)) (fun _ y => 2050 - (intOf y).toNat)
  case atStart => exact ⟨N, 2, rfl, rfl, h0, h1, by omega, by omega, Lib.hid rfl, Lib.hid fun q h1 h2 => by omega⟩
  case round =>
    obtain ⟨n, p, rfl, rfl, hn0, hn, hp2, hp, HF, HN⟩ := hrel
    obtain ⟨P, hP⟩ : ∃ P, p * p = P := ⟨_, rfl⟩
    have hPb : P ≤ 4198401 := by rw [← hP]; exact Nat.mul_le_mul hp hp
    have e1 : IntKind.i64.wrap ((p : Int) * (p : Int)) = (P : Int) := by rw [← Int.natCast_mul, hP]; exact IntWalk.i64_in _ (by omega)
    have HPP := Lib.hid hP
    clear hP
    by_cases hend : most < p ∨ n < P
    · have HE := Lib.hid (HF.out.symm.trans (fine_end hn0 h2 HN.out (by rw [HPP.out]; exact hend)))
      by_cases hm : most < p
      · have d1 : decide ((p : Int) ≤ most) = false := by simp; omega
        clear hend
        go_wp2_with fail
        go_ret
        exact ⟨by rw [HE.out]; rfl, rfl⟩
      · have d1 : decide ((p : Int) ≤ most) = true := by simp; omega
        have hnP : n < P := hend.resolve_left hm
        have d2 : decide ((P : Int) ≤ (n : Int)) = false := by simp; omega
        have d2' : ¬ P ≤ n := by omega
        clear hend
        go_wp2_with fail
        go_ret
        exact ⟨by rw [HE.out]; rfl, rfl⟩
    · have hm : (p : Int) ≤ most := by omega
      have hle : P ≤ n := by omega
      have d1 : decide ((p : Int) ≤ most) = true := by simp; omega
      have hp6 : p ≤ 2048 := by
        refine Nat.le_of_not_lt fun h => ?_
        have := Nat.mul_le_mul (show 2049 ≤ p from h) (show 2049 ≤ p from h)
        have := HPP.out
        omega
      clear hend
      go_wp2_with fail
      go_loop [0] (fun x => ∃ n : Nat, x = .int .i64 n ∧ 0 < n ∧ n ≤ 4194304 ∧ Hid (fineB n most = fineB N most) ∧ Hid (∀ q, 2 ≤ q → q < p → ¬ q ∣ n)) (fun x => (intOf x).toNat)
      case atStart => exact ⟨n, rfl, hn0, hn, HF, HN⟩
      case round =>
        clear hle HF HN hn hn0
        obtain ⟨n, rfl, hn0, hn, HF, HN⟩ := hrel
        by_cases hd : n % p = 0
        · obtain ⟨f1, f2, f3, f4⟩ := fine_pull hp2 hd hn0 HN.out hm
          have d3 : ((n : Int) % (p : Int) == 0) = true := by rw [← Int.natCast_emod, hd]; rfl
          obtain ⟨m, hmm⟩ : ∃ m, n / p = m := ⟨_, rfl⟩
          rw [hmm] at f1 f2 f3 f4
          have e3 : IntKind.i64.wrap ((n : Int) / (p : Int)) = (m : Int) := by rw [← Int.natCast_ediv, hmm]; exact IntWalk.i64_in _ (by omega)
          have HF1 := Lib.hid (f1.symm.trans HF.out)
          have HF4 := Lib.hid f4
          clear f1 f4 hd hmm
          go_wp2_with fail
          go_round
          case rel => exact ⟨m, rfl, f2, by omega, HF1, HF4⟩
          case measure => simp [intOf]; omega
        · have d3 : ((n : Int) % (p : Int) == 0) = false := by rw [← Int.natCast_emod, beq_eq_false_iff_ne]; omega
          have HN' : Hid (∀ q, 2 ≤ q → q < p + 1 → ¬ q ∣ n) := Lib.hid fun q h1 h2 hq => by
            rcases Nat.lt_or_ge q p with h4 | h4
            · exact HN.out q h1 h4 hq
            · obtain rfl : q = p := by omega
              exact hd (Nat.mod_eq_zero_of_dvd hq)
          clear hd
          go_wp2_with fail
          go_round
          case rel => exact ⟨n, p + 1, rfl, by go_num, hn0, hn, by omega, by omega, HF, HN'⟩
          case measure => simp [intOf]; omega
set_option maxHeartbeats 800000 in
theorem Smooth_any (n : Nat) (most : Int) (w : World) (h0 : 1 ≤ n) (h1 : n ≤ 1048576) (h2 : 2 ≤ most) (h3 : most ≤ 9223372036854775807) :
    Calls Tryd.prog 32 #[.int .i64 n, .int .i64 most] w fun e w' => ∃ x : Nat, e = .returned (.tuple #[.int .i64 x, .nilIface]) ∧ Hid (IsSmooth n most x) ∧ w = w' := by
  obtain ⟨K, g1, g2⟩ := pow2_near n h0
  obtain ⟨G, hG⟩ : ∃ G, 2 ^ K = G := ⟨_, rfl⟩
  have hGf := fine_pow2 K h2
  rw [hG] at g1 g2 hGf
  have HG := Lib.hid hGf
  clear hG hGf
  have d1 : decide ((n : Int) < 1) = false := by simp; omega
  have d2 : decide ((1048576 : Int) < n) = false := by simp; omega
  have d3 : decide (most < 2) = false := by simp; omega
  go_enter Tryd.func32, Tryd.ntmps32
  go_wp2_with fail
  go_loop [0] (fun x => ∃ k : Nat, x = .int .i64 k ∧ n ≤ k ∧ k ≤ G ∧ Hid (∀ j, n ≤ j → j < k → fineB j most = false)) (fun x => G + 1 - (intOf x).toNat)
  case atStart => exact ⟨n, rfl, by omega, g1, Lib.hid fun j a b => by omega⟩
  case round =>
    obtain ⟨k, rfl, hk, hkG, HK⟩ := hrel
    cases hf : fineB k most with
    | true =>
      have HC : Hid (∀ w', Calls Tryd.prog 46 #[.int .i64 k, .int .i64 most] w' fun e w'' => e = .returned (.bool true) ∧ w' = w'') := Lib.hid fun w' => by have := fine_any k most w' (by omega) (by omega) h2 h3; rw [hf] at this; exact this
      have HF := Lib.hid hf
      clear hf
      go_wp2_with (go_at_call 46; (with_reducible refine (HC.out _).mono ?_); rintro e w1 ⟨rfl, rfl⟩)
      go_ret2
      exact ⟨k, rfl, Lib.hid ⟨hk, by omega, HF.out, HK.out⟩, rfl⟩
    | false =>
      have hlt : k < G := by
        refine Nat.lt_of_le_of_ne hkG fun e => ?_
        rw [e, HG.out] at hf; cases hf
      have HC : Hid (∀ w', Calls Tryd.prog 46 #[.int .i64 k, .int .i64 most] w' fun e w'' => e = .returned (.bool false) ∧ w' = w'') := Lib.hid fun w' => by have := fine_any k most w' (by omega) (by omega) h2 h3; rw [hf] at this; exact this
      have HF := Lib.hid hf
      clear hf
      go_wp2_with (go_at_call 46; (with_reducible refine (HC.out _).mono ?_); rintro e w1 ⟨rfl, rfl⟩)
      go_round
      case rel => exact ⟨k + 1, by go_num, by omega, by omega, Lib.hid fun j a b => by
        rcases Nat.lt_or_ge j k with c | c
        · exact HK.out j a c
        · obtain rfl : j = k := by omega
          exact HF.out⟩
      case measure => simp [intOf]; omega
/-- A number whose primes are at most 2 is a power of two. -/
theorem prod_two : ∀ l : List Nat, (∀ q ∈ l, q = 2) → l.prod = 2 ^ l.length
  | [], _ => rfl
  | q :: l, h => by
    rw [List.prod_cons, prod_two l fun q hq => h q (List.mem_cons_of_mem _ hq), h q (List.mem_cons_self ..), List.length_cons, Nat.pow_succ, Nat.mul_comm]
theorem fine_two {x : Nat} (hx : 1 ≤ x) (h : fineB x 2 = true) : ∃ a, x = 2 ^ a := by
  refine ⟨(facts x).length, ?_⟩
  rw [← prod_two (facts x) ?_, facts_prod x hx]
  intro q hq
  unfold fineB at h
  rw [List.all_eq_true] at h
  have h1 := of_decide_eq_true (h q hq)
  have h2 := (facts_mem hq).1.1
  omega
/-- The least power of two from n on. -/
def IsTwo (n x : Nat) : Prop := n ≤ x ∧ x < 2 * n ∧ ∃ a, x = 2 ^ a
theorem two_uniq {n x y : Nat} (hx : IsTwo n x) (hy : IsTwo n y) : x = y := by
  obtain ⟨a1, a2, a, rfl⟩ := hx
  obtain ⟨b1, b2, b, rfl⟩ := hy
  rcases Nat.lt_trichotomy a b with h | rfl | h
  · have := Nat.pow_le_pow_right (show 0 < 2 by decide) (show a + 1 ≤ b from h)
    rw [Nat.pow_succ] at this
    omega
  · rfl
  · have := Nat.pow_le_pow_right (show 0 < 2 by decide) (show b + 1 ≤ a from h)
    rw [Nat.pow_succ] at this
    omega
theorem smooth_two {n x : Nat} (hn : 1 ≤ n) (h : IsSmooth n 2 x) : IsTwo n x := by
  obtain ⟨h1, h2, h3, _⟩ := h
  exact ⟨h1, by omega, fine_two (by omega) h3⟩
end Go.Proofs.YtnkcjbabfckdgaaDoor
