/-
  The cheapest order, more: what a power of two costs at most; the divisors one by one.
-/
import Derived.Test.YtgjlldapnodfbaaDoorOBest2
namespace Go.Ord
open Go.Pr
/-- There is an order that costs at most c. -/
def Le (b : Option (Tr × Int)) (c : Int) : Prop := ∃ T C, b = some (T, C) ∧ C ≤ c
theorem Le.offer {b : Option (Tr × Int)} {c : Int} (h : Le b c) (T : Tr) (x : Int) : Le (offer b T x) c := by
  obtain ⟨S, C, rfl, hC⟩ := h
  unfold Ord.offer
  simp only
  split
  · exact ⟨_, _, rfl, by omega⟩
  · exact ⟨_, _, rfl, hC⟩
theorem Le.new (b : Option (Tr × Int)) (T : Tr) (x : Int) : Le (Ord.offer b T x) x := by
  cases b with
  | none => exact ⟨_, _, rfl, Int.le_refl _⟩
  | some y =>
    obtain ⟨S, C⟩ := y
    unfold Ord.offer
    simp only
    split
    · exact ⟨_, _, rfl, Int.le_refl _⟩
    · exact ⟨_, _, rfl, by omega⟩
theorem Le.fold {α : Type} {c : Int} {f : Option (Tr × Int) → α → Option (Tr × Int)} : ∀ (l : List α) (b : Option (Tr × Int)), Le b c → (∀ a ∈ l, ∀ b, Le b c → Le (f b a) c) → Le (l.foldl f b) c
  | [], _, h, _ => h
  | a :: l, b, h, hf => Le.fold l _ (hf a (List.mem_cons_self ..) b h) fun x hx => hf x (List.mem_cons_of_mem _ hx)
theorem Le.hit {α : Type} {c : Int} {f : Option (Tr × Int) → α → Option (Tr × Int)} {x : α} : ∀ (l : List α) (b : Option (Tr × Int)), x ∈ l → (∀ b, Le (f b x) c) → (∀ a ∈ l, ∀ b, Le b c → Le (f b a) c) → Le (l.foldl f b) c
  | [], _, h, _, _ => by cases h
  | a :: l, b, h, hx, hf => by
    rw [List.foldl_cons]
    rcases List.mem_cons.1 h with rfl | h
    · exact Le.fold l _ (hx b) fun y hy => hf y (List.mem_cons_of_mem _ hy)
    · exact Le.hit l _ h hx fun y hy => hf y (List.mem_cons_of_mem _ hy)
theorem Le.div {p : Pol} {r : Nat → Option (Tr × Int)} {n a : Nat} {b : Option (Tr × Int)} {c : Int} (h : Le b c) : Le (divStep p r n b a) c := by
  unfold divStep
  split
  · exact h
  · split
    · exact h
    · exact Le.fold _ _ h fun k _ b hb => hb.offer _ _
theorem Le.blue {p : Pol} {r : Nat → Option (Tr × Int)} {n : Nat} {b : Option (Tr × Int)} {c : Int} (h : Le b c) : Le (blueStep p r n b) c := by
  unfold blueStep
  split
  · split
    · exact h
    · exact h.offer _ _
  · exact h
theorem sat_le (x : Int) (h : 0 ≤ x) : sat x ≤ x := by unfold sat; split <;> omega
/-- A power of two costs little. -/
theorem two_cost {p : Pol} (hp : p.Good) : ∀ k : Nat, k ≤ 14 → Le (best p (2 ^ k)) (40 * (k + 1) * 2 ^ k)
  | 0, _ => by
    rw [show (2 : Nat) ^ 0 = 1 from rfl, best_eq hp.p1 (Nat.le_refl _)]
    refine Le.blue (Le.fold _ _ ?_ fun _ _ _ h => h.div)
    unfold headStep
    refine Le.hit (x := 1) _ _ (head_one (by have := hp.d1; omega)) (fun b => ?_) fun _ _ _ h => h.offer _ _
    obtain ⟨S, C, e, hC⟩ := Le.new b (leaf 1 (1 : Nat)) (sat (leaf 1 (1 : Nat)).C)
    refine ⟨S, C, e, Int.le_trans hC ?_⟩
    unfold leaf; rw [C1]; decide
  | 1, _ => by
    rw [show (2 : Nat) ^ 1 = 2 from rfl, best_eq hp.p1 (by decide)]
    refine Le.blue (Le.fold _ _ ?_ fun _ _ _ h => h.div)
    unfold headStep
    refine Le.hit (x := 1) _ _ (head_one (by have := hp.d1; omega)) (fun b => ?_) fun _ _ _ h => h.offer _ _
    obtain ⟨S, C, e, hC⟩ := Le.new b (leaf 1 (2 : Nat)) (sat (leaf 1 (2 : Nat)).C)
    refine ⟨S, C, e, Int.le_trans hC ?_⟩
    unfold leaf; rw [C1]; decide
  | k + 2, hk => by
    obtain ⟨T, y, eT, hy⟩ := two_cost hp (k + 1) (by omega)
    obtain ⟨M, hM⟩ : ∃ M, 2 ^ (k + 1) = M := ⟨_, rfl⟩
    have e2 : 2 ^ (k + 2) = 2 * M := by rw [← hM, Nat.pow_succ, Nat.mul_comm]
    have hM1 : 2 ≤ M := by rw [← hM, Nat.pow_succ]; have := Nat.two_pow_pos k; omega
    have hMI : (2 : Int) ^ (k + 1) = (M : Int) := by rw [← hM]; norm_cast
    have hMI2 : (2 : Int) ^ (k + 2) = 2 * (M : Int) := by rw [Int.pow_succ, hMI]; omega
    rw [hMI] at hy
    rw [hM] at eT
    rw [e2, hMI2, best_eq hp.p1 (by omega)]
    have hy0 := (best_ok hp (rank M) M (Nat.le_refl _) (by omega) T y eT).1
    refine Le.blue (Le.hit (x := 2) _ _ ((mem_divs (by omega)).2 ⟨M, rfl⟩) (fun b => ?_) fun _ _ _ h => h.div)
    unfold divStep
    rw [if_neg (by omega), Nat.mul_div_cancel_left _ (by decide), eT]
    refine Le.hit (x := 1) _ _ (head_one (by have := hp.d1; omega)) (fun b => ?_) fun _ _ _ h => h.offer _ _
    obtain ⟨S, C, e, hC⟩ := Le.new b ((leaf 1 (2 : Nat)).times T) (sat (tcost (2 : Nat) (M : Nat) (sat (leaf 1 (2 : Nat)).C) y ((1 : Int) == 2)))
    refine ⟨S, C, e, Int.le_trans hC (Int.le_trans (sat_le _ ?_) ?_)⟩
    · exact tcost_nonneg _ _ _ _ _ (by omega) (by omega) (by unfold leaf; rw [C1]; decide) hy0
    · have e32 : sat (leaf 1 (2 : Nat)).C = 32 := by unfold leaf; rw [C1]; decide
      rw [e32]
      unfold tcost
      simp only [show ((1 : Int) == 2) = false from rfl, Bool.false_eq_true, if_false]
      have : (40 : Int) * (↑(k + 1) + 1) * (M : Int) = 40 * ((k : Int) * M) + 80 * M := by
        push_cast; rw [show (40 : Int) * ((k : Int) + 1 + 1) = 40 * k + 80 by omega, Int.add_mul, Int.mul_assoc]
      rw [this] at hy
      have e3 : (40 : Int) * (↑(k + 2) + 1) * (2 * (M : Int)) = 80 * ((k : Int) * M) + 240 * M := by
        have hkm : (k : Int) * (2 * (M : Int)) = 2 * ((k : Int) * M) := Int.mul_left_comm _ _ _
        push_cast; rw [show (40 : Int) * ((k : Int) + 1 + 1 + 1) = 40 * k + 120 by omega, Int.add_mul, Int.mul_assoc, hkm]; omega
      rw [e3]
      push_cast
      omega
theorem two_small {p : Pol} (hp : p.Good) {k : Nat} (hk : k ≤ 14) {T : Tr} {C : Int} (h : best p (2 ^ k) = some (T, C)) : C ≤ 10000000 := by
  obtain ⟨S, D, e, hD⟩ := two_cost hp k hk
  rw [h] at e
  injection e with e
  injection e with e1 e2
  subst e2
  have h1 : (2 : Int) ^ k ≤ 16384 := by
    have := Nat.pow_le_pow_right (show 0 < 2 by decide) hk
    have e : ((2 ^ k : Nat) : Int) = (2 : Int) ^ k := by norm_cast
    omega
  have h2 : (40 : Int) * (k + 1) * 2 ^ k ≤ 600 * 16384 := by
    refine Int.le_trans (Int.mul_le_mul_of_nonneg_left h1 (by omega)) (Int.mul_le_mul_of_nonneg_right (by omega) (by decide))
  omega
/-- The offers of the divisors below a. -/
def belowA (p : Pol) (n a : Nat) : Option (Tr × Int) := ((List.range' 1 (a - 1)).filter (fun d => n % d == 0)).foldl (divStep p (best p) n) (headStep p n)
end Go.Ord
