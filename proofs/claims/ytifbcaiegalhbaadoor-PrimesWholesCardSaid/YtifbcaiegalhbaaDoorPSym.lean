/-
  Plain facts: divisors read from the end are the other parts; the count by factors never falls.
-/
import Derived.Test.YtifbcaiegalhbaaDoorPDivs
namespace Go.Pr

theorem sorted_ext : ∀ {a b : List Nat}, a.Pairwise (· < ·) → b.Pairwise (· < ·) → (∀ x, x ∈ a ↔ x ∈ b) → a = b
  | [], b, _, _, h => by
    cases b with
    | nil => rfl
    | cons y b => exact absurd ((h y).2 (by simp)) (by simp)
  | x :: a, b, ha, hb, h => by
    rw [List.pairwise_cons] at ha
    obtain ⟨r, rfl, hr⟩ := head_of hb ((h x).1 (by simp)) (fun y hy => by
      rcases List.mem_cons.1 ((h y).2 hy) with rfl | h1
      · omega
      · have := ha.1 y h1; omega)
    rw [sorted_ext ha.2 (List.pairwise_cons.1 hb).2 (fun y => ?_)]
    have := h y
    simp only [List.mem_cons] at this
    constructor
    · intro h1
      rcases this.1 (Or.inr h1) with rfl | h2
      · exact absurd (ha.1 _ h1) (by omega)
      · exact h2
    · intro h1
      rcases this.2 (Or.inr h1) with rfl | h2
      · exact absurd (hr _ h1) (by omega)
      · exact h2
theorem divs_rev (n : Nat) (hn : 0 < n) : ((divs n).map (n / ·)).reverse = divs n := by
  refine sorted_ext ?_ (divs_sorted n) fun x => ?_
  · rw [List.pairwise_reverse, List.pairwise_map]
    refine List.Pairwise.imp_of_mem ?_ (divs_sorted n)
    intro a b ha hb hab
    have h1 := Nat.div_mul_cancel ((mem_divs hn).1 ha)
    have h2 := Nat.div_mul_cancel ((mem_divs hn).1 hb)
    have ha0 := (divs_le hn ha).1
    refine Nat.lt_of_not_le fun h => ?_
    have h3 : n / a * a ≤ n / b * a := Nat.mul_le_mul_right _ h
    have h4 : 0 < n / b := Nat.div_pos (divs_le hn hb).2 (divs_le hn hb).1
    have h5 : n / b * a < n / b * b := Nat.mul_lt_mul_of_pos_left hab h4
    omega
  · rw [List.mem_reverse, List.mem_map]
    constructor
    · rintro ⟨y, hy, rfl⟩
      rw [mem_divs hn] at hy ⊢
      exact Nat.div_dvd_of_dvd hy
    · intro hx
      refine ⟨n / x, ?_, ?_⟩
      · rw [mem_divs hn] at hx ⊢
        exact Nat.div_dvd_of_dvd hx
      · exact (co_dvd hn (Nat.mod_eq_zero_of_dvd ((mem_divs hn).1 hx))).2.1
theorem divs_pair {n j : Nat} (hn : 0 < n) (hj : j < (divs n).length) : (divs n)[(divs n).length - 1 - j]'(by omega) = n / (divs n)[j] := by
  have h : ((divs n).map (n / ·)).reverse[(divs n).length - 1 - j]'(by simp; omega) = (divs n)[(divs n).length - 1 - j]'(by omega) := by
    simp only [divs_rev n hn]
  rw [← h, List.getElem_reverse, List.getElem_map]
  congr 2
  simp; omega
theorem divs_up {n i j : Nat} (hj : j < (divs n).length) (hij : i < j) : (divs n)[i]'(by omega) < (divs n)[j] :=
  List.pairwise_iff_getElem.1 (divs_sorted n) i j (by omega) hj hij
theorem runs_ge : ∀ (l : List Nat) (last run count : Nat), count * (run + 1) ≤ runs l last run count
  | [], _, _, _ => Nat.le_refl _
  | p :: l, last, run, count => by
    unfold runs
    split
    · have := runs_ge l last (run + 1) count
      have : count * (run + 1) ≤ count * (run + 1 + 1) := Nat.mul_le_mul_left _ (by omega)
      omega
    · have := runs_ge l p 1 (count * (run + 1))
      omega
theorem runs_same (p : Nat) (l : List Nat) (run count : Nat) : runs (p :: l) p run count = runs l p (run + 1) count := by
  show (if p = p then _ else _) = _
  rw [if_pos rfl]
theorem runs_other {p last : Nat} (h : p ≠ last) (l : List Nat) (run count : Nat) : runs (p :: l) last run count = runs l p 1 (count * (run + 1)) := by
  show (if p = last then _ else _) = _
  rw [if_neg h]
end Go.Pr
