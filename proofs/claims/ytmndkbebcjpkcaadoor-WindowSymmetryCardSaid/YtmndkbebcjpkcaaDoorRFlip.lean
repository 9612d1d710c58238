/-
  Layer 7 in plain Lean: cosines of k and n - k, sines of halves of a turn: alike to the bit; sines of the first half are from 0 to 1.
-/
import Derived.Test.YtmndkbebcjpkcaaDoorRTurn
namespace Go.Roots
open Go.Fl Ieee

theorem plus_of_EQv {x y : Nat} (h : EQv x y) : plus x = plus y := by
  rcases h with rfl | ⟨h1, h2⟩
  · rfl
  · unfold plus; rw [if_pos (ord_of_Zw h1), if_pos (ord_of_Zw h2)]
theorem pairP_whole (n k : Int) : pairP n (k + n) = pairP n k := by
  unfold pairP; rw [Int.add_emod_right]
theorem cos_flip (n k : Int) (h1 : 1 ≤ n) (h2 : n ≤ 4194304) : (pair n (n - k)).1 = (pair n k).1 := by
  have e : n - k = -k + n := by omega
  show plus _ = plus _
  rw [e, pairP_whole]
  exact plus_of_EQv (conj_turn n k h1 h2).1
theorem sin_flip (n m : Int) (h1 : 1 ≤ n) (h2 : n ≤ 4194304) (h4 : n % 2 = 0) : (pair n (n / 2 - m)).2 = (pair n m).2 := by
  have e : n / 2 - m = -m + n / 2 := by omega
  show plus _ = plus _
  rw [e, half_turn n (-m) h1 h2 h4]
  have hc := (conj_turn n m h1 h2).2
  have hu := unit_pairP n m h1 h2
  refine plus_of_EQv ?_
  show EQv (neg (pairP n (-m)).2) _
  have := hc.neg
  rw [hu.2.fin1.neg_neg] at this
  exact this
theorem sin_window (n k : Int) (h1 : 1 ≤ n) (h2 : n ≤ 1048576) : (pair (4 * n) (2 * (n - 1 - k) + 1)).2 = (pair (4 * n) (2 * k + 1)).2 := by
  have := sin_flip (4 * n) (2 * k + 1) (by omega) (by omega) (by omega)
  have e : 4 * n / 2 - (2 * k + 1) = 2 * (n - 1 - k) + 1 := by omega
  rwa [e] at this
theorem plus_pos {x : Nat} (h : x ≤ ONE) : plus x ≤ ONE := by
  unfold plus; split
  · exact Nat.zero_le _
  · exact h
/-- Sines of the first half of a turn. -/
theorem sin_pos (n k : Int) (h1 : 1 ≤ n) (h2 : n ≤ 4194304) (k0 : 0 ≤ k) (k1 : 2 * k < n) : (pair n k).2 ≤ ONE := by
  have hk : k % n = k := Int.emod_eq_of_lt k0 (by omega)
  have hq : 4 * k / n = 0 ∨ 4 * k / n = 1 := by
    have hd := Int.mul_ediv_add_emod (4 * k) n
    have hr0 := Int.emod_nonneg (4 * k) (show n ≠ 0 by omega)
    have hr1 := Int.emod_lt_of_pos (4 * k) (show 0 < n by omega)
    have ha : 0 ≤ 4 * k / n := Int.ediv_nonneg (by omega) (by omega)
    have hb : 4 * k / n < 2 := Int.ediv_lt_of_lt_mul (by omega) (by omega)
    omega
  have ho := octant_le (4 * k % n) n (Int.emod_nonneg _ (by omega)) (Int.emod_lt_of_pos _ (by omega)) h2
  show plus (pairP n k).2 ≤ ONE
  refine plus_pos ?_
  unfold pairP
  rw [hk]
  rcases hq with hq | hq
  · rw [hq]; exact ho.2
  · rw [hq]; exact ho.1
theorem add_pos {a b : Nat} (ha : a < 0x7ff0000000000000) (hb : b < 0x7ff0000000000000) : add a b = Rk (val a + val b) 0 := by
  have := add_words false false a b ha hb
  rw [word_false, word_false] at this
  rw [this]
  have e : sg false (val a) + sg false (val b) = ((val a + val b : Nat) : Int) := by
    show (val a : Int) + (val b : Int) = _; omega
  rw [e]
  have e2 : (if ((val a + val b : Nat) : Int) = 0 then false && false else decide (((val a + val b : Nat) : Int) < 0)) = false := by
    split
    · rfl
    · exact decide_eq_false (by omega)
  rw [e2, word_false]; rfl
/-- A - B times a number from -1 to 1 is from 0 to 1, where B is at most A and their sum is at most 1. -/
theorem lerp {A B c : Nat} (hc : Unit1 c) (hBA : B ≤ A) (hA : A ≤ ONE) (hAB : add A B ≤ ONE) : sub A (mul B c) ≤ ONE := by
  obtain ⟨s, z, rfl, hz⟩ := hc
  have hone : ONE < 0x7ff0000000000000 := by decide
  have fB : B < 0x7ff0000000000000 := by omega
  have fA : A < 0x7ff0000000000000 := by omega
  have fz : z < 0x7ff0000000000000 := by omega
  have hm := mul_words false s B z fB fz
  rw [word_false] at hm
  have hy : Rk (val B * val z) 1074 ≤ B := by
    have := mul_le_ONE hz (Nat.le_refl B) fB
    rwa [mul_pos z B fz fB, Nat.mul_comm] at this
  rw [hm]
  generalize Rk (val B * val z) 1074 = y at hy
  have fy : y < 0x7ff0000000000000 := by omega
  cases s
  · show sub A (double.word false y) ≤ ONE
    rw [word_false]
    exact Nat.le_trans (sub_le (by omega) fA) hA
  · show sub A (double.word true y) ≤ ONE
    have h1 := sub_words false true A y fA fy
    have h2 := add_words false false A y fA fy
    rw [word_false] at h1 h2
    rw [word_false] at h2
    have : sub A (double.word true y) = add A y := by rw [h1, h2]; rfl
    rw [this, add_pos fA fy]
    refine Nat.le_trans (Rk_mono (N' := val A + val B) ?_ 0) (by rw [← add_pos fA fB]; exact hAB)
    have := (val_le fy fB).2 hy
    omega
theorem add_hann : add 4602678819172646912 4602678819172646912 ≤ ONE := by decide +kernel
theorem add_hamming : add 4603039107142836552 4601958243232267633 ≤ ONE := by decide +kernel
theorem between {x : Nat} (h : x ≤ ONE) : cn x = x ∧ ((ord x 0 == some .gt) || (ord x 0 == some .eq)) = true ∧ ((ord x ONE == some .lt) || (ord x ONE == some .eq)) = true := by
  have hone : ONE < 0x7ff0000000000000 := by decide
  have fx : x < 0x7ff0000000000000 := by omega
  have h0 := ord_words false false x 0 fx (by decide)
  have h1 := ord_words false false x ONE fx hone
  rw [word_false, word_false] at h0 h1
  have hv := (val_le fx hone).2 h
  refine ⟨(Unit1.of_le h).fin1.cn, ?_, ?_⟩
  · rw [h0, val_zero]
    show ((some (compare (val x : Int) 0) == some .gt) || (some (compare (val x : Int) 0) == some .eq)) = true
    rcases Nat.eq_zero_or_pos (val x) with hz | hz
    · rw [hz]; rfl
    · rw [Int.compare_eq_gt.2 (show (0 : Int) < (val x : Int) by omega)]; rfl
  · rw [h1]
    show ((some (compare (val x : Int) (val ONE : Int)) == some .lt) || (some (compare (val x : Int) (val ONE : Int)) == some .eq)) = true
    rcases Nat.lt_or_ge (val x) (val ONE) with hz | hz
    · rw [Int.compare_eq_lt.2 (show (val x : Int) < (val ONE : Int) by omega)]; rfl
    · rw [Int.compare_eq_eq.2 (show (val x : Int) = (val ONE : Int) by omega)]; rfl
end Go.Roots
