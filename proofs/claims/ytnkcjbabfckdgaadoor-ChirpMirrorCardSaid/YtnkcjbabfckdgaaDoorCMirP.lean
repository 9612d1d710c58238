/-
  Plain laws for ChirpMirror: roots are not nought; the other list read from its end; how many noughts it holds.
-/
import Derived.Test.YtnkcjbabfckdgaaDoorRBound
import Derived.Test.YtnkcjbabfckdgaaDoorCSpec
namespace Go.Proofs.YtnkcjbabfckdgaaDoor
open Go Go.RowKit Go.Fl Go.Roots Ieee

/-- A float from -1 to 1 that is not nought. -/
def NZ (x : Nat) : Prop := ∃ s z, x = double.word s z ∧ 0 < z ∧ z ≤ ONE
theorem ONE_fin : ONE < 0x7ff0000000000000 := by decide
theorem NZ.of_le {x : Nat} (h0 : 0 < x) (h : x ≤ ONE) : NZ x := ⟨false, x, (word_false x).symm, h0, h⟩
theorem NZ.neg {x : Nat} (h : NZ x) : NZ (neg x) := by
  obtain ⟨s, z, rfl, h0, hz⟩ := h
  exact ⟨!s, z, neg_word s z (Nat.lt_of_le_of_lt hz ONE_fin), h0, hz⟩
theorem NZ.ne {x : Nat} (h : NZ x) : (ord x 0 == some .eq) = false := by
  obtain ⟨s, z, rfl, h0, hz⟩ := h
  have hf := Nat.lt_of_le_of_lt hz ONE_fin
  have h1 := ord_words s false z 0 hf (by decide)
  rw [word_false] at h1
  rw [h1]
  have hv : 0 < val z := by
    rcases Nat.eq_zero_or_pos (val z) with e | e
    · have := (val_le (r := z) (r' := 0) hf (by decide)).1 (by rw [e]; exact Nat.zero_le _)
      omega
    · exact e
  have hs : sg s (val z) ≠ sg false (val 0) := by
    rw [val_zero]
    unfold sg
    cases s <;> simp <;> omega
  have hc : compare (sg s (val z)) (sg false (val 0)) ≠ .eq := fun e => hs (Int.compare_eq_eq.1 e)
  cases hcc : compare (sg s (val z)) (sg false (val 0)) with
  | eq => exact absurd hcc hc
  | lt => rfl
  | gt => rfl
theorem NZ.plus {x : Nat} (h : NZ x) : NZ (plus x) := by
  have := h.ne
  unfold Roots.plus
  rw [if_neg (by rw [this]; decide)]
  exact h
theorem half_pos : 0 < sub ONE (C 0 1) := by decide +kernel
theorem horner_pos (y : Nat) (hy : y ≤ ONE) : 0 < horner y 0 := by
  have h7 := hor_le 0 (by omega) y hy 7 (by omega)
  have hm := mul_le_ONE hy h7 (C_fin 0 (by omega) 1 (by omega))
  have h1 : C 0 1 ≤ ONE := by decide +kernel
  have hs := sub_mono (Nat.le_refl ONE) hm h1 ONE_fin
  have e : horner y 0 = sub (C 0 0) (mul y (hor 0 y 7)) := rfl
  rw [e, C_top 0 (by omega)]
  exact Nat.lt_of_lt_of_le half_pos hs
theorem eighth_nz (r n : Nat) (h : 8 * r ≤ n) (hn : n < 2 ^ 53) : NZ (eighth r n).1 := by
  refine NZ.of_le ?_ (eighth_le r n h hn).1
  unfold eighth
  split
  · decide
  · split
    · decide
    · have ha := ang_le r n h (by omega) hn
      exact horner_pos _ (mul_le_ONE ha ha ONE_fin)
theorem octant_nz (r n : Int) (h0 : 0 ≤ r) (h1 : r < n) (hn : n ≤ 4194304) : NZ (octant r n).1 ∨ NZ (octant r n).2 := by
  obtain ⟨R, rfl⟩ := Int.eq_ofNat_of_zero_le h0
  obtain ⟨N, rfl⟩ := Int.eq_ofNat_of_zero_le (show 0 ≤ n by omega)
  unfold octant
  split
  · left
    have := eighth_nz R (4 * N) (by omega) (by omega)
    simpa using this
  · right
    have := eighth_nz (N - R) (4 * N) (by omega) (by omega)
    rw [show ((N : Int) - (R : Int)) = ((N - R : Nat) : Int) by omega]
    simpa using this
theorem rot_nz : ∀ (q : Nat) (p : Nat × Nat), NZ p.1 ∨ NZ p.2 → NZ (rot q p).1 ∨ NZ (rot q p).2
  | 0, _, h => h
  | q + 1, p, h => by
    rcases rot_nz q p h with h | h
    · exact .inr h
    · exact .inl h.neg
theorem root_nz (n k : Int) (h1 : 1 ≤ n) (h2 : n ≤ 4194304) : NZ (root n k).1 ∨ NZ (root n k).2 := by
  have h := rot_nz (4 * (k % n) / n).toNat _ (octant_nz (4 * (k % n) % n) n (Int.emod_nonneg _ (by omega)) (Int.emod_lt_of_pos _ (by omega)) h2)
  rcases h with h | h
  · exact .inl h.plus
  · exact .inr h.plus.neg.plus
theorem chirp_nz (n j : Int) (h1 : 1 ≤ n) (h2 : n ≤ 2000) : (ord (chirp n j).1 0 == some .eq) = false ∨ (ord (neg (chirp n j).2) 0 == some .eq) = false := by
  rcases root_nz (2 * n) ((j % (2 * n)) * (j % (2 * n))) (by omega) (by omega) with h | h
  · exact .inl h.ne
  · exact .inr h.neg.ne
theorem chirp_zero (n : Int) (h1 : 1 ≤ n) : chirp n 0 = (ONE, 0) := by
  rw [chirp_sq]
  have e : root (2 * n) (0 * 0) = root 1 0 := by
    unfold root pair pairP octant
    rw [show (0 : Int) * 0 = 0 by rfl, Int.zero_emod, Int.zero_emod, show (4 : Int) * 0 = 0 by rfl, Int.zero_emod, Int.zero_emod, Int.zero_ediv, Int.zero_ediv, if_pos (by omega), if_pos (by omega)]
    unfold eighth
    rw [if_pos rfl, if_pos rfl]
  rw [e]
  decide +kernel
/-- The other list read from its end. -/
theorem oth_end {n m i : Nat} (hm : 2 * n ≤ m + 1) (h1 : 1 ≤ i) (h2 : i < m) : oth n m n (m - i) = oth n m n i := by
  unfold oth
  by_cases a : i < n
  · rw [if_neg (show ¬ m - i < n by omega), if_pos (show m - (m - i) < n by omega), if_pos a, show m - (m - i) = i by omega]
  · rw [if_neg a]
    by_cases b : m - i < n
    · rw [if_pos b, if_pos b]
    · rw [if_neg b, if_neg (show ¬ m - (m - i) < n by omega), if_neg b]
/-- Its noughts: those in the middle. -/
theorem oth_mid {n m i : Nat} (h1 : ¬ i < n) (h2 : ¬ m - i < n) : oth n m n i = (0, 0) := by
  unfold oth; rw [if_neg h1, if_neg h2]
theorem oth_rim {n m i : Nat} (hn : 1 ≤ n) (hn2 : n ≤ 2000) (h : i < n ∨ m - i < n) : (ord (oth n m n i).1 0 == some .eq) = false ∨ (ord (oth n m n i).2 0 == some .eq) = false := by
  unfold oth
  by_cases a : i < n
  · rw [if_pos a]; exact chirp_nz n i (by omega) (by omega)
  · rw [if_neg a, if_pos (h.resolve_left a)]; exact chirp_nz n _ (by omega) (by omega)
/-- The noughts ahead of place i. -/
def noughts (n m i : Nat) : Nat := min i (m + 1 - n) - n
theorem noughts_mid {n m i : Nat} (hm : 2 * n ≤ m + 1) (hi : i < m) (h1 : ¬ i < n) (h2 : ¬ m - i < n) : noughts n m (i + 1) = noughts n m i + 1 := by
  unfold noughts; omega
theorem noughts_rim {n m i : Nat} (hm : 2 * n ≤ m + 1) (hi : i < m) (h : i < n ∨ m - i < n) : noughts n m (i + 1) = noughts n m i := by
  unfold noughts; omega
theorem noughts_one {n m : Nat} (hn : 1 ≤ n) : noughts n m 1 = 0 := by unfold noughts; omega
theorem noughts_all {n m : Nat} (hn : 1 ≤ n) (hm : 2 * n ≤ m + 1) : noughts n m m = m - (2 * n - 1) := by unfold noughts; omega
theorem mirror_nums (n more : Int) : ∃ N R : Nat, (1 ≤ N ∧ N ≤ 2000 ∧ R < 50) ∧ wrap64 (1 + wrap64 ((IntKind.u64.wrap n).tmod 2000)) = (N : Int) ∧ wrap64 ((IntKind.u64.wrap more).tmod 50) = (R : Int) := by
  have u1 : ∀ x : Int, 0 ≤ IntKind.u64.wrap x ∧ IntKind.u64.wrap x < 18446744073709551616 := fun x => by unfold IntKind.wrap; simp [IntKind.bits, IntKind.signed]; omega
  obtain ⟨N0, hN⟩ : ∃ N : Nat, IntKind.u64.wrap n % 2000 = (N : Int) := Int.eq_ofNat_of_zero_le (by have := u1 n; omega)
  obtain ⟨R, hR⟩ : ∃ R : Nat, IntKind.u64.wrap more % 50 = (R : Int) := Int.eq_ofNat_of_zero_le (by have := u1 more; omega)
  refine ⟨1 + N0, R, by have := u1 n; have := u1 more; omega, ?_, ?_⟩
  · rw [Int.tmod_eq_emod_of_nonneg (u1 n).1, hN, IntWalk.wrap64_in (N0 : Int) (by omega), IntWalk.wrap64_in _ (by omega)]; omega
  · rw [Int.tmod_eq_emod_of_nonneg (u1 more).1, hR]; exact IntWalk.wrap64_in _ (by omega)
end Go.Proofs.YtnkcjbabfckdgaaDoor
