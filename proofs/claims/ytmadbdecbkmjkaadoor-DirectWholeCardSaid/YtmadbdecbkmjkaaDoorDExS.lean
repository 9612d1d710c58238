/-
  Plain law for DirectWhole: transforms of one, two and four whole numbers are exact, there and back.
-/
import Derived.Test.YtmadbdecbkmjkaaDoorDEx
namespace Go.Proofs.YtmadbdecbkmjkaaDoor
open Go Go.RowKit Go.Fl Go.Roots Ieee

theorem ic_twist (e q : Nat) (he : e < 3) (hq : q < 2 ^ e) {x : Nat × Nat} {a b : Int} (hx : IC x a b) (ha : a.natAbs < 2 ^ 50) (hb : b.natAbs < 2 ^ 50) :
    IC (twist x ((2 ^ e : Nat) : Int) q) (qre (2 ^ (2 - e) * q) a b) (qim (2 ^ (2 - e) * q) a b) := by
  have hm : (q : Int) % ((2 ^ e : Nat) : Int) = (q : Int) := Int.emod_eq_of_lt (by omega) (by omega)
  unfold twist
  rw [hm]
  by_cases h0 : q = 0
  · subst h0
    rw [if_pos (show ((0 : Nat) : Int) = 0 from rfl), Nat.mul_zero]
    exact hx
  · rw [if_neg (by omega)]
    obtain ⟨c, d, hr, r0, r1, r2, r3⟩ := root_quarter e q he hq
    have hlt := Nat.mod_lt (2 ^ (2 - e) * q) (show 0 < 4 by decide)
    unfold qre qim
    generalize 2 ^ (2 - e) * q % 4 = r at *
    rcases (show r = 0 ∨ r = 1 ∨ r = 2 ∨ r = 3 by omega) with rfl | rfl | rfl | rfl
    · obtain ⟨rfl, rfl⟩ := r0 rfl
      have := ic_mul hx hr (by omega) (by omega) (by omega) (by omega) (by omega) (by omega)
      simpa using this
    · obtain ⟨rfl, rfl⟩ := r1 rfl
      have := ic_mul hx hr (by omega) (by omega) (by omega) (by omega) (by omega) (by omega)
      simpa using this
    · obtain ⟨rfl, rfl⟩ := r2 rfl
      have := ic_mul hx hr (by omega) (by omega) (by omega) (by omega) (by omega) (by omega)
      simpa using this
    · obtain ⟨rfl, rfl⟩ := r3 rfl
      have := ic_mul hx hr (by omega) (by omega) (by omega) (by omega) (by omega) (by omega)
      simpa using this
/-- The sums of whole numbers turned. -/
def sumR (u k : Nat) (re im : Nat → Int) : Nat → Int
  | 0 => 0
  | j + 1 => sumR u k re im j + qre (u * j * k) (re j) (im j)
def sumI (u k : Nat) (re im : Nat → Int) : Nat → Int
  | 0 => 0
  | j + 1 => sumI u k re im j + qim (u * j * k) (re j) (im j)
theorem q_le (q : Nat) (a b : Int) (M : Nat) (ha : a.natAbs ≤ M) (hb : b.natAbs ≤ M) : (qre q a b).natAbs ≤ M ∧ (qim q a b).natAbs ≤ M := by
  unfold qre qim
  split
  · exact ⟨ha, hb⟩
  · split
    · exact ⟨hb, by omega⟩
    · split
      · exact ⟨by omega, by omega⟩
      · exact ⟨by omega, ha⟩
theorem sum_le (u k : Nat) (re im : Nat → Int) (M : Nat) : ∀ j, (∀ i, i < j → (re i).natAbs ≤ M ∧ (im i).natAbs ≤ M) → (sumR u k re im j).natAbs ≤ j * M ∧ (sumI u k re im j).natAbs ≤ j * M
  | 0, _ => ⟨by show (0 : Int).natAbs ≤ _; simp, by show (0 : Int).natAbs ≤ _; simp⟩
  | j + 1, h => by
    obtain ⟨h1, h2⟩ := sum_le u k re im M j fun i hi => h i (by omega)
    obtain ⟨h3, h4⟩ := h j (by omega)
    obtain ⟨h5, h6⟩ := q_le (u * j * k) (re j) (im j) M h3 h4
    rw [Nat.add_mul, Nat.one_mul]
    constructor
    · show (sumR u k re im j + qre (u * j * k) (re j) (im j)).natAbs ≤ _
      omega
    · show (sumI u k re im j + qim (u * j * k) (re j) (im j)).natAbs ≤ _
      omega
theorem q_mod (e j k : Nat) (he : e < 3) (a b : Int) : qre (2 ^ (2 - e) * (j * k % 2 ^ e)) a b = qre (2 ^ (2 - e) * j * k) a b ∧ qim (2 ^ (2 - e) * (j * k % 2 ^ e)) a b = qim (2 ^ (2 - e) * j * k) a b := by
  have h : 2 ^ (2 - e) * (j * k % 2 ^ e) % 4 = 2 ^ (2 - e) * j * k % 4 := by
    rw [Nat.mul_assoc]
    generalize j * k = m
    rcases (show e = 0 ∨ e = 1 ∨ e = 2 by omega) with rfl | rfl | rfl
    · show 4 * (m % 1) % 4 = 4 * m % 4; omega
    · show 2 * (m % 2) % 4 = 2 * m % 4; omega
    · show 1 * (m % 4) % 4 = 1 * m % 4; omega
  unfold qre qim
  rw [h]
  exact ⟨rfl, rfl⟩
theorem ic_acc (e k : Nat) (he : e < 3) (hk : k < 2 ^ e) (f : Nat → Nat × Nat) (re im : Nat → Int) (M : Nat) (hM : M ≤ 2 ^ 45) (hf : ∀ j, j < 2 ^ e → IC (f j) (re j) (im j)) (hb : ∀ i, i < 2 ^ e → (re i).natAbs ≤ M ∧ (im i).natAbs ≤ M) :
    ∀ j, j < 2 ^ e → IC (acc f ((2 ^ e : Nat) : Int) k j) (sumR (2 ^ (2 - e)) k re im (j + 1)) (sumI (2 ^ (2 - e)) k re im (j + 1))
  | 0, h => by
    have h1 : sumR (2 ^ (2 - e)) k re im 1 = re 0 := by
      show 0 + qre (2 ^ (2 - e) * 0 * k) (re 0) (im 0) = _
      rw [Nat.mul_zero, Nat.zero_mul, Int.zero_add]; rfl
    have h2 : sumI (2 ^ (2 - e)) k re im 1 = im 0 := by
      show 0 + qim (2 ^ (2 - e) * 0 * k) (re 0) (im 0) = _
      rw [Nat.mul_zero, Nat.zero_mul, Int.zero_add]; rfl
    rw [h1, h2]
    exact hf 0 h
  | j + 1, h => by
    have ih := ic_acc e k he hk f re im M hM hf hb j (by omega)
    have hm : ((k : Nat) : Int) % ((2 ^ e : Nat) : Int) = ((k : Nat) : Int) := Int.emod_eq_of_lt (by omega) (by omega)
    have ht : term f ((2 ^ e : Nat) : Int) k (j + 1) = twist (f (j + 1)) ((2 ^ e : Nat) : Int) (((j + 1) * k % 2 ^ e : Nat) : Int) := by
      unfold term
      rw [hm, ← Int.natCast_mul, ← Int.natCast_emod]
    have hq : (j + 1) * k % 2 ^ e < 2 ^ e := Nat.mod_lt _ (Nat.two_pow_pos e)
    obtain ⟨b1, b2⟩ := hb (j + 1) h
    have h45 : (2 : Nat) ^ 45 = 35184372088832 := by decide
    have h50 : (2 : Nat) ^ 50 = 1125899906842624 := by decide
    have h53 : (2 : Nat) ^ 53 = 9007199254740992 := by decide
    have tw := ic_twist e ((j + 1) * k % 2 ^ e) he hq (hf (j + 1) h) (by omega) (by omega)
    obtain ⟨e1, e2⟩ := q_mod e (j + 1) k he (re (j + 1)) (im (j + 1))
    rw [e1, e2] at tw
    have h4 : (2 : Nat) ^ e ≤ 4 := by rcases (show e = 0 ∨ e = 1 ∨ e = 2 by omega) with rfl | rfl | rfl <;> decide
    obtain ⟨s1, s2⟩ := sum_le (2 ^ (2 - e)) k re im M (j + 1 + 1) fun i hi => hb i (by omega)
    have hjM : (j + 1 + 1) * M ≤ 4 * M := Nat.mul_le_mul_right _ (by omega)
    show IC (cadd (acc f ((2 ^ e : Nat) : Int) k j) (term f ((2 ^ e : Nat) : Int) k (j + 1))) _ _
    rw [ht]
    exact ic_add ih tw (by show (sumR (2 ^ (2 - e)) k re im (j + 1 + 1)).natAbs < _; omega) (by show (sumI (2 ^ (2 - e)) k re im (j + 1 + 1)).natAbs < _; omega)
theorem ic_dft (e k : Nat) (he : e < 3) (hk : k < 2 ^ e) (f : Nat → Nat × Nat) (re im : Nat → Int) (M : Nat) (hM : M ≤ 2 ^ 45) (hf : ∀ j, j < 2 ^ e → IC (f j) (re j) (im j)) (hb : ∀ i, i < 2 ^ e → (re i).natAbs ≤ M ∧ (im i).natAbs ≤ M) :
    IC (dft f (2 ^ e) k) (sumR (2 ^ (2 - e)) k re im (2 ^ e)) (sumI (2 ^ (2 - e)) k re im (2 ^ e)) := by
  have hp := Nat.two_pow_pos e
  have := ic_acc e k he hk f re im M hM hf hb (2 ^ e - 1) (by omega)
  rw [show 2 ^ e - 1 + 1 = 2 ^ e by omega] at this
  exact this
/-- There and back. -/
theorem back_sum (e j : Nat) (he : e < 3) (hj : j < 2 ^ e) (re im : Nat → Int) :
    sumR (2 ^ (2 - e)) j (fun k => sumR (2 ^ (2 - e)) k re im (2 ^ e)) (fun k => -sumI (2 ^ (2 - e)) k re im (2 ^ e)) (2 ^ e) = re j * 2 ^ e ∧
    sumI (2 ^ (2 - e)) j (fun k => sumR (2 ^ (2 - e)) k re im (2 ^ e)) (fun k => -sumI (2 ^ (2 - e)) k re im (2 ^ e)) (2 ^ e) = -im j * 2 ^ e := by
  rcases (show e = 0 ∨ e = 1 ∨ e = 2 by omega) with rfl | rfl | rfl
  · obtain rfl : j = 0 := by omega
    simp [sumR, sumI, qre, qim]
  · rcases (show j = 0 ∨ j = 1 by omega) with rfl | rfl
    all_goals
      simp [sumR, sumI, qre, qim]
      omega
  · rcases (show j = 0 ∨ j = 1 ∨ j = 2 ∨ j = 3 by omega) with rfl | rfl | rfl | rfl
    all_goals
      simp [sumR, sumI, qre, qim]
      omega
theorem ic_idft (e j : Nat) (he : e < 3) (hj : j < 2 ^ e) (f : Nat → Nat × Nat) (re im : Nat → Int) (M : Nat) (hM : M ≤ 2 ^ 43) (hf : ∀ j, j < 2 ^ e → IC (f j) (re j) (im j)) (hb : ∀ i, i < 2 ^ e → (re i).natAbs ≤ M ∧ (im i).natAbs ≤ M) :
    IC (idft (fun k => dft f (2 ^ e) k) (2 ^ e) j) (re j) (im j) := by
  have h43 : (2 : Nat) ^ 43 = 8796093022208 := by decide
  have h45 : (2 : Nat) ^ 45 = 35184372088832 := by decide
  have h53 : (2 : Nat) ^ 53 = 9007199254740992 := by decide
  have h4 : (2 : Nat) ^ e ≤ 4 := by rcases (show e = 0 ∨ e = 1 ∨ e = 2 by omega) with rfl | rfl | rfl <;> decide
  have hs : ∀ k, (sumR (2 ^ (2 - e)) k re im (2 ^ e)).natAbs ≤ 4 * M ∧ (sumI (2 ^ (2 - e)) k re im (2 ^ e)).natAbs ≤ 4 * M := fun k => by
    obtain ⟨a, b⟩ := sum_le (2 ^ (2 - e)) k re im M (2 ^ e) hb
    have := Nat.mul_le_mul_right M h4
    omega
  have hg : ∀ k : Nat, k < 2 ^ e → IC (conj (dft f (2 ^ e) (k : Int))) (sumR (2 ^ (2 - e)) k re im (2 ^ e)) (-sumI (2 ^ (2 - e)) k re im (2 ^ e)) := fun k hk => by
    have := ic_dft e k he hk f re im M (by omega) hf hb
    exact ⟨this.1, iv_neg this.2⟩
  have h2 := ic_dft e j he hj (fun k => conj (dft f (2 ^ e) k)) (fun k => sumR (2 ^ (2 - e)) k re im (2 ^ e)) (fun k => -sumI (2 ^ (2 - e)) k re im (2 ^ e)) (4 * M) (by omega) hg (fun i _ => by have := hs i; omega)
  obtain ⟨b1, b2⟩ := back_sum e j he hj re im
  rw [b1, b2] at h2
  have hbj := hb j hj
  have h3 : IV (neg (dft (fun k => conj (dft f (2 ^ e) k)) (2 ^ e) j).2) (im j * 2 ^ e) := by
    have := iv_neg h2.2
    rwa [Int.neg_mul, Int.neg_neg] at this
  exact ⟨iv_div e he h2.1 (by omega), iv_div e he h3 (by omega)⟩
end Go.Proofs.YtmadbdecbkmjkaaDoor
