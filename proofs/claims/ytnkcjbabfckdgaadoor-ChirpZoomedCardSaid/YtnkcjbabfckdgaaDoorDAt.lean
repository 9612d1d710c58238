/-
  The walks of direct.At.
-/
import Derived.Test.YtnkcjbabfckdgaaDoorDSlide
namespace Go.Proofs.YtnkcjbabfckdgaaDoor
open Go Go.RowKit Go.Fl Go.Roots

/-- Is the place wrong? -/
def offRange (m at' jump n : Int) : Prop := at' < 0 ∨ m ≤ at' ∨ jump < 1 ∨ (1 < n ∧ (m - 1 - at') / (n - 1) < jump)
theorem at_in {m at' jump n : Nat} (_ : at' < m) (h2 : (jump : Int) ≤ ((m : Int) - 1 - at') / ((n : Int) - 1)) (n1 : 1 < n) : ∀ j, j < n → at' + j * jump < m := by
  intro j hj
  have h3 := Int.mul_ediv_self_le (x := (m : Int) - 1 - at') (k := (n : Int) - 1) (by omega)
  have h4 : ((n : Int) - 1) * (jump : Int) ≤ ((n : Int) - 1) * (((m : Int) - 1 - at') / ((n : Int) - 1)) := Int.mul_le_mul_of_nonneg_left h2 (by omega)
  have h5 : (j : Int) * (jump : Int) ≤ ((n : Int) - 1) * (jump : Int) := Int.mul_le_mul_of_nonneg_right (by omega) (by omega)
  have h6 : ((j * jump : Nat) : Int) = (j : Int) * (jump : Int) := Int.natCast_mul ..
  omega
theorem alloc_size (w : World) (o : Obj) : (w.alloc o).heap.size = w.heap.size + 1 := Array.size_push ..
theorem boxes3 (w : World) (u v x : Value) (t1 t2 t3 : TypeId) :
    (((w.alloc (.cells #[u] t1)).alloc (.cells #[v] t2)).alloc (.cells #[x] t3)).cell? ⟨w.heap.size, 0, none⟩ = some u ∧
    (((w.alloc (.cells #[u] t1)).alloc (.cells #[v] t2)).alloc (.cells #[x] t3)).cell? ⟨w.heap.size + 1, 0, none⟩ = some v ∧
    (((w.alloc (.cells #[u] t1)).alloc (.cells #[v] t2)).alloc (.cells #[x] t3)).cell? ⟨w.heap.size + 1 + 1, 0, none⟩ = some x ∧
    Kp w (((w.alloc (.cells #[u] t1)).alloc (.cells #[v] t2)).alloc (.cells #[x] t3)) := by
  have h1 : (w.alloc (.cells #[u] t1)).cell? ⟨w.heap.size, 0, none⟩ = some u := cell_of_one (heap_alloc_new w _)
  have h2 : ((w.alloc (.cells #[u] t1)).alloc (.cells #[v] t2)).cell? ⟨w.heap.size + 1, 0, none⟩ = some v := by
    have := cell_of_one (heap_alloc_new (w.alloc (.cells #[u] t1)) (.cells #[v] t2 (0, 0)))
    rwa [alloc_size] at this
  have h3 : (((w.alloc (.cells #[u] t1)).alloc (.cells #[v] t2)).alloc (.cells #[x] t3)).cell? ⟨w.heap.size + 1 + 1, 0, none⟩ = some x := by
    have := cell_of_one (heap_alloc_new ((w.alloc (.cells #[u] t1)).alloc (.cells #[v] t2)) (.cells #[x] t3 (0, 0)))
    rwa [alloc_size, alloc_size] at this
  exact ⟨(((Kp.refl _).alloc _).alloc _).later h1, ((Kp.refl _).alloc _).later h2, h3, (((Kp.refl _).alloc _).alloc _).alloc _⟩
end Go.Proofs.YtnkcjbabfckdgaaDoor
