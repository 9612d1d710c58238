/-
  Plain laws of layer 13: chirps by their squares, the sums of a zoom.
-/
import Derived.Test.YtnkcjbabfckdgaaDoorDSum
namespace Go.Proofs.YtnkcjbabfckdgaaDoor
open Go Go.RowKit Go.Fl Go.Roots

theorem root_congr {n k k' : Int} (h : k % n = k' % n) : root n k = root n k' := by
  unfold root pair pairP; rw [h]
theorem twist_congr (a : Nat × Nat) {n k k' : Int} (h : k % n = k' % n) : twist a n k = twist a n k' := by
  unfold twist; rw [h, root_congr h]
/-- The chirp j of n. -/
def chirp (n j : Int) : Nat × Nat := root (2 * n) ((j % (2 * n)) * (j % (2 * n)))
theorem chirp_sq (n j : Int) : chirp n j = root (2 * n) (j * j) := root_congr (by rw [← Int.mul_emod])
theorem chirp_ref (n j : Int) : root (2 * n) ((j % (2 * n)) * (j % (2 * n)) % (2 * n)) = chirp n j := root_congr (Int.emod_emod_of_dvd _ (Int.dvd_refl _))
theorem chirp_neg (n j : Int) : chirp n (-j) = chirp n j := by rw [chirp_sq, chirp_sq, Int.neg_mul_neg]
theorem chirp_more (n j : Int) : chirp n (j + 2 * n) = chirp n j := by unfold chirp; rw [Int.add_emod_right]
/-- The other list of n and m while k of its chirps are there. -/
def oth (n m k i : Nat) : Nat × Nat := if i < k then ((chirp n i).1, neg (chirp n i).2) else if m - i < k then ((chirp n ((m - i : Nat) : Int)).1, neg (chirp n ((m - i : Nat) : Int)).2) else (0, 0)
theorem oth_zero (n m i : Nat) : oth n m 0 i = (0, 0) := by unfold oth; rw [if_neg (by omega), if_neg (by omega)]
/-- The sum of the first j + 1 terms of a zoom. -/
def zacc (f : Nat → Nat × Nat) (m a : Int) : Nat → Nat × Nat
  | 0 => f 0
  | j + 1 => cadd (zacc f m a j) (twist (f (j + 1)) m (((j + 1 : Nat) : Int) * a))
theorem zacc_step (f : Nat → Nat × Nat) (m a : Int) (j : Nat) (h : 1 ≤ j) : zacc f m a j = cadd (zacc f m a (j - 1)) (twist (f j) m ((j : Int) * a)) := by
  obtain ⟨i, rfl⟩ : ∃ i, j = i + 1 := ⟨j - 1, by omega⟩
  rfl
theorem zacc_congr (f : Nat → Nat × Nat) {m a a' : Int} (h : a % m = a' % m) : ∀ j, zacc f m a j = zacc f m a' j
  | 0 => rfl
  | j + 1 => by
    show cadd (zacc f m a j) _ = cadd (zacc f m a' j) _
    rw [zacc_congr f h j]
    rw [twist_congr (f (j + 1)) (k' := ((j + 1 : Nat) : Int) * a') (by rw [Int.mul_emod, h, ← Int.mul_emod])]
/-- Element k of a zoom. -/
def zoom (f : Nat → Nat × Nat) (n : Nat) (m from' : Int) (k : Nat) : Nat × Nat := zacc f m (from' + k) (n - 1)
theorem zacc_dft (f : Nat → Nat × Nat) (n k : Int) : ∀ j, acc f n k j = zacc f n k j
  | 0 => rfl
  | j + 1 => by
    show cadd (acc f n k j) (term f n k (j + 1)) = cadd (zacc f n k j) _
    rw [zacc_dft f n k j]
    unfold term
    rw [twist_congr (f (j + 1)) (k' := ((j + 1 : Nat) : Int) * k) (by rw [Int.emod_emod_of_dvd _ (Int.dvd_refl n), Int.mul_emod, Int.emod_emod_of_dvd _ (Int.dvd_refl n), ← Int.mul_emod])]
theorem zoom_dft (f : Nat → Nat × Nat) (n k : Nat) : zoom f n n 0 k = dft f n k := by
  unfold zoom dft
  rw [zacc_dft, Int.zero_add]
theorem zoom_far (f : Nat → Nat × Nat) (n : Nat) (m from' : Int) (k : Nat) : zoom f n m (from' + 3 * m) k = zoom f n m from' k := by
  unfold zoom
  refine zacc_congr f ?_ _
  rw [show from' + 3 * m + (k : Int) = (from' + k) + m * 3 from by omega, Int.add_mul_emod_self_left]
theorem zoom_part (f : Nat → Nat × Nat) (n : Nat) (m from' : Int) (c k : Nat) : zoom f n m (from' + c) k = zoom f n m from' (c + k) := by
  unfold zoom
  rw [show from' + (c : Int) + (k : Int) = from' + ((c + k : Nat) : Int) from by omega]
end Go.Proofs.YtnkcjbabfckdgaaDoor
