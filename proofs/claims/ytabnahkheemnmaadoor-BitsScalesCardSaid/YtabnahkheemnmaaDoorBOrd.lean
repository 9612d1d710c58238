/-
  Plain law: the line's order is that of the values.
-/
import Derived.Test.YtabnahkheemnmaaDoorBSpec
import Derived.Test.YtabnahkheemnmaaDoorIe
namespace Go.Proofs.YtabnahkheemnmaaDoor
open Go Go.RowKit Go.Fl Ieee

theorem Num.word {b : Nat} (h : Num b) : ∃ s r, b = double.word s r ∧ r ≤ 9218868437227405312 ∧ pl b = if s = true then -1 - (r : Int) else (r : Int) := by
  have hb := h.bound
  have hs := signWeight_double
  rcases hb with h1 | ⟨h1, h2⟩
  · refine ⟨false, b, (word_false b).symm, h1, ?_⟩
    unfold pl
    rw [if_pos (by omega), if_neg (by decide)]
  · refine ⟨true, b - 9223372036854775808, ?_, by omega, ?_⟩
    · unfold Format.word
      rw [if_pos rfl, hs]
      omega
    · unfold pl
      rw [if_neg (by omega), if_pos rfl]
      omega
theorem read_inf (s : Bool) : double.read (double.word s 9218868437227405312) = .infinity s := by
  have hs := signWeight_double
  have hi := infRung_double
  have hb := binade_double
  have e : double.word s 9218868437227405312 % double.signWeight = 9218868437227405312 := by
    unfold Format.word
    rw [hs]
    cases s <;> simp
  have e2 : (double.word s 9218868437227405312 / double.signWeight % 2 == 1) = s := by
    unfold Format.word
    rw [hs]
    cases s <;> simp
  unfold Format.read
  simp only [e, e2, hi, hb]
  rw [if_neg (by decide), if_neg (by decide), if_pos trivial]
theorem ord_lt {a b : Nat} (ha : Num a) (hb : Num b) (h : pl a < pl b) : (ord a b == some .lt) = true ∨ (a = 9223372036854775808 ∧ b = 0) := by
  obtain ⟨s, r, rfl, hr, e1⟩ := ha.word
  obtain ⟨t, q, rfl, hq, e2⟩ := hb.word
  rw [e1, e2] at h
  by_cases hri : r = 9218868437227405312
  · subst hri
    by_cases hqi : q = 9218868437227405312
    · subst hqi
      left
      unfold ord Format.order
      rw [read_inf, read_inf]
      cases s <;> cases t
      · simp at h
      · simp at h
      · rfl
      · simp at h
    · have hs : s = true := by
        cases s
        · exfalso
          cases t
          · simp at h; omega
          · simp at h; omega
        · rfl
      subst hs
      left
      unfold ord Format.order
      rw [read_inf, read_word t q (by omega)]
      rfl
  · by_cases hqi : q = 9218868437227405312
    · subst hqi
      have ht : t = false := by
        cases t
        · rfl
        · exfalso
          cases s
          · simp at h; omega
          · simp at h; omega
      subst ht
      left
      unfold ord Format.order
      rw [read_inf, read_word s r (by omega)]
      rfl
    · have hr' : r < 0x7ff0000000000000 := by omega
      have hq' : q < 0x7ff0000000000000 := by omega
      rw [ord_words s t r q hr' hq']
      have v1 := val_le hr' hq'
      have v2 := val_le hq' hr'
      have key : sg s (val r) < sg t (val q) ∨ (s = true ∧ t = false ∧ r = 0 ∧ q = 0) := by
        cases s <;> cases t
        · left
          simp at h
          unfold sg
          simp only [Bool.false_eq_true, if_false]
          omega
        · simp at h; omega
        · by_cases hz : r = 0 ∧ q = 0
          · exact .inr ⟨rfl, rfl, hz.1, hz.2⟩
          · left
            have z1 : val r = 0 → r = 0 := fun e => by
              have := (val_le (r := r) (r' := 0) hr' (by decide)).1 (by rw [e]; exact Nat.zero_le _)
              omega
            have z2 : val q = 0 → q = 0 := fun e => by
              have := (val_le (r := q) (r' := 0) hq' (by decide)).1 (by rw [e]; exact Nat.zero_le _)
              omega
            unfold sg
            simp only [Bool.false_eq_true, if_false, if_true]
            omega
        · left
          simp at h
          unfold sg
          simp only [if_true]
          omega
      rcases key with k | ⟨k1, k2, k3, k4⟩
      · left
        rw [show compare (sg s (val r)) (sg t (val q)) = .lt from Int.compare_eq_lt.2 k]
        rfl
      · right
        subst k1 k2 k3 k4
        refine ⟨?_, word_false 0⟩
        unfold Format.word
        rw [if_pos rfl, signWeight_double]
end Go.Proofs.YtabnahkheemnmaaDoor
