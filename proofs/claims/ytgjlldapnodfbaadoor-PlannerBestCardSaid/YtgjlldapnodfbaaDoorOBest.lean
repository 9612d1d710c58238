/-
  The cheapest order, as a plain function: by recursion on the rank.
-/
import Derived.Test.YtgjlldapnodfbaaDoorORound
namespace Go.Ord
open Go.Pr
/-- A leaf. -/
def leaf (k a : Int) : Tr := .mk k a 0 (fun _ => .nil)
/-- The least power of two from N on. -/
def twoGo : Nat → Nat → Nat → Nat
  | 0, x, _ => x
  | f + 1, x, N => if N ≤ x then x else twoGo f (2 * x) N
def twoOf (N : Nat) : Nat := twoGo 20 1 N
/-- The offers of one divisor. -/
def divStep (p : Pol) (rec : Nat → Option (Tr × Int)) (n : Nat) (b : Option (Tr × Int)) (a : Nat) : Option (Tr × Int) :=
  if a < 2 ∨ a = n then b else
    match rec (n / a) with
    | none => b
    | some (T, y) => (p.heads a).foldl (fun b k => offer b ((leaf k a).times T) (sat (tcost a (n / a : Nat) (sat (leaf k a).C) y (k == 2)))) b
def headStep (p : Pol) (n : Nat) : Option (Tr × Int) := (p.heads n).foldl (fun b k => offer b (leaf k n) (sat (leaf k n).C)) none
def blueStep (p : Pol) (rec : Nat → Option (Tr × Int)) (n : Nat) (b : Option (Tr × Int)) : Option (Tr × Int) :=
  if p.hard n then
    match rec (twoOf (2 * n - 1)) with
    | none => b
    | some (T, x) => offer b (T.blue n) (sat (bcost n (twoOf (2 * n - 1) : Nat) x))
  else b
def bestStep (p : Pol) (rec : Nat → Option (Tr × Int)) (n : Nat) : Option (Tr × Int) := blueStep p rec n ((divs n).foldl (divStep p rec n) (headStep p n))
def bestF (p : Pol) : Nat → Nat → Option (Tr × Int)
  | 0, _ => none
  | f + 1, n => bestStep p (bestF p f) n
/-- A power of two comes ahead of all other lengths. -/
def rank (n : Nat) : Nat := if 2 ^ Nat.log2 n = n then n else 20000 + n
theorem rank_two (k : Nat) : rank (2 ^ k) = 2 ^ k := by unfold rank; rw [Nat.log2_two_pow, if_pos rfl]
theorem rank_le (n : Nat) : n ≤ rank n ∧ rank n ≤ 20000 + n := by unfold rank; split <;> omega
theorem rank_other {n : Nat} (h : ∀ k, n ≠ 2 ^ k) : rank n = 20000 + n := by unfold rank; rw [if_neg (fun e => h _ e.symm)]
theorem dvd_two : ∀ (k d : Nat), d ∣ 2 ^ k → ∃ j, d = 2 ^ j
  | 0, d, h => ⟨0, Nat.dvd_one.1 h⟩
  | k + 1, d, h => by
    rcases Nat.mod_two_eq_zero_or_one d with e | e
    · obtain ⟨c, rfl⟩ := Nat.dvd_of_mod_eq_zero e
      rw [Nat.pow_succ, Nat.mul_comm (2 ^ k) 2] at h
      obtain ⟨j, rfl⟩ := dvd_two k c (Nat.dvd_of_mul_dvd_mul_left (show 0 < 2 by decide) h)
      exact ⟨j + 1, by rw [Nat.pow_succ, Nat.mul_comm]⟩
    · have hc : Nat.Coprime d 2 := by
        have h1 := Nat.gcd_dvd_left d 2
        have h2 := Nat.gcd_dvd_right d 2
        have h3 := Nat.le_of_dvd (by decide) h2
        have h4 : 0 < Nat.gcd d 2 := Nat.pos_of_dvd_of_pos h2 (by decide)
        rcases (show Nat.gcd d 2 = 1 ∨ Nat.gcd d 2 = 2 by omega) with h5 | h5
        · exact h5
        · rw [h5] at h1
          have := Nat.mod_eq_zero_of_dvd h1
          omega
      rw [Nat.pow_succ] at h
      exact dvd_two k d (hc.dvd_of_dvd_mul_right h)
/-- A quotient's rank is less. -/
theorem rank_div {n a : Nat} (hn : 1 ≤ n) (ha : 2 ≤ a) (hd : a ∣ n) : rank (n / a) < rank n := by
  have hlt : n / a < n := Nat.div_lt_self hn ha
  by_cases h : ∃ k, n = 2 ^ k
  · obtain ⟨k, rfl⟩ := h
    have hdv : 2 ^ k / a ∣ 2 ^ k := Nat.div_dvd_of_dvd hd
    obtain ⟨j, e⟩ := dvd_two _ _ hdv
    rw [rank_two, e, rank_two, ← e]
    exact hlt
  · rw [rank_other (fun k e => h ⟨k, e⟩)]
    have := (rank_le (n / a)).2
    omega
theorem twoGo_is : ∀ (f x N : Nat), (∃ j, x = 2 ^ j) → x < 2 * N → N ≤ 2 ^ f * x → N ≤ twoGo f x N ∧ twoGo f x N < 2 * N ∧ ∃ k, twoGo f x N = 2 ^ k
  | 0, x, N, h1, h2, h3 => by
    unfold twoGo
    exact ⟨by omega, h2, h1⟩
  | f + 1, x, N, h1, h2, h3 => by
    unfold twoGo
    split
    · rename_i h; exact ⟨h, h2, h1⟩
    · rename_i h
      obtain ⟨j, rfl⟩ := h1
      refine twoGo_is f (2 * 2 ^ j) N ⟨j + 1, by rw [Nat.pow_succ, Nat.mul_comm]⟩ (by omega) ?_
      rw [Nat.pow_succ, Nat.mul_assoc] at h3
      exact h3
theorem twoOf_is {N : Nat} (h1 : 1 ≤ N) (h2 : N ≤ 1000000) : N ≤ twoOf N ∧ twoOf N < 2 * N ∧ ∃ k, twoOf N = 2 ^ k :=
  twoGo_is 20 1 N ⟨0, rfl⟩ (by omega) (by omega)
theorem foldl_same {α β : Type} {f g : β → α → β} : ∀ {l : List α} (b : β), (∀ a ∈ l, ∀ b, f b a = g b a) → l.foldl f b = l.foldl g b
  | [], _, _ => rfl
  | a :: l, b, h => by
    rw [List.foldl_cons, List.foldl_cons, h a (List.mem_cons_self ..)]
    exact foldl_same _ fun x hx => h x (List.mem_cons_of_mem _ hx)
/-- A length with a prime above 2 is no power of two. -/
theorem hard_rank {p : Pol} {n : Nat} (hn : 1 ≤ n) (hP : 2 ≤ p.P) (h : p.hard n = true) : rank n = 20000 + n ∧ n ≤ 8192 := by
  unfold Pol.hard at h
  rw [Bool.and_eq_true, List.any_eq_true] at h
  obtain ⟨⟨q, hq, hgt⟩, hle⟩ := h
  have hgt := of_decide_eq_true hgt
  have hle := of_decide_eq_true hle
  refine ⟨rank_other fun k e => ?_, hle⟩
  have hm := facts_mem hq
  obtain ⟨j, hj⟩ := dvd_two k q (by rw [← e]; exact hm.2)
  have h2 : 2 ∣ q := by
    cases j with
    | zero => rw [hj] at hgt; simp at hgt; omega
    | succ j => exact ⟨2 ^ j, by rw [hj, Nat.pow_succ, Nat.mul_comm]⟩
  exact hm.1.2 2 (Nat.le_refl _) (by omega) h2
theorem bestStep_same {p : Pol} {r r' : Nat → Option (Tr × Int)} {n : Nat} (hn : 1 ≤ n) (hP : 2 ≤ p.P) (h : ∀ m, 1 ≤ m → rank m < rank n → r m = r' m) : bestStep p r n = bestStep p r' n := by
  have h1 : (divs n).foldl (divStep p r n) (headStep p n) = (divs n).foldl (divStep p r' n) (headStep p n) := foldl_same _ fun a ha b => by
    unfold divStep
    have hd := (mem_divs (by omega)).1 ha
    split
    · rfl
    · rename_i hc
      rw [h (n / a) (Nat.div_pos (Nat.le_of_dvd hn hd) (by omega)) (rank_div hn (by omega) hd)]
  unfold bestStep
  rw [h1]
  unfold blueStep
  split
  · rename_i hh
    obtain ⟨hr, hle⟩ := hard_rank hn hP hh
    obtain ⟨t1, t2, k, t3⟩ := twoOf_is (N := 2 * n - 1) (by omega) (by omega)
    rw [h (twoOf (2 * n - 1)) (by omega) (by
      have h14 : twoOf (2 * n - 1) ≤ 16384 := by
        rw [t3]
        rcases Nat.lt_or_ge 14 k with c | c
        · have := Nat.pow_le_pow_right (show 0 < 2 by decide) (show 15 ≤ k from c)
          omega
        · exact Nat.pow_le_pow_right (show 0 < 2 by decide) c
      rw [hr, t3, rank_two, ← t3]; omega)]
  · rfl
/-- Enough fuel is enough. -/
theorem bestF_same {p : Pol} (hP : 2 ≤ p.P) : ∀ (f g n : Nat), 1 ≤ n → rank n < f → rank n < g → bestF p f n = bestF p g n
  | 0, _, _, _, h, _ => absurd h (Nat.not_lt_zero _)
  | _ + 1, 0, _, _, _, h => absurd h (Nat.not_lt_zero _)
  | f + 1, g + 1, n, hn, h1, h2 => by
    show bestStep p (bestF p f) n = bestStep p (bestF p g) n
    exact bestStep_same hn hP fun m hm hr => bestF_same hP f g m hm (by omega) (by omega)
/-- The cheapest order of a length, and its cost. -/
def best (p : Pol) (n : Nat) : Option (Tr × Int) := bestF p (rank n + 1) n
theorem best_eq {p : Pol} (hP : 2 ≤ p.P) {n : Nat} (hn : 1 ≤ n) : best p n = bestStep p (best p) n := by
  show bestStep p (bestF p (rank n)) n = _
  exact bestStep_same hn hP fun m hm hr => bestF_same hP _ _ m hm hr (Nat.lt_succ_self _)
end Go.Ord
