/-
  An argument that is an order, opened to a tree.
-/
import Derived.Test.YtgjlldapnodfbaaDoorOCost4
import Derived.Test.YtgjlldapnodfbaaDoorOpen
import Derived.Lib.SmallJoins
namespace Go.Proofs.YtgjlldapnodfbaaDoor
open Go Go.RowKit Go.Fl Go.Ord Go.ChangeShapes Go.WideShapes Go.ChangeAt Go.Deep
set_option maxRecDepth 100000

theorem cellsO : Tryd.prog.cellsOf 28 = 3 := by kernel_rfl
theorem cellsI : Tryd.prog.cellsOf 3 = 1 := by kernel_rfl
theorem cellsSO : Tryd.prog.cellsOf 26 = 1 := by kernel_rfl
theorem bytesO : Tryd.prog.bytesOf 28 = 40 := by kernel_rfl
theorem wAll_mem {H : Type} {P : Program} {e : TypeId} : ∀ {l : List (DataW H)} {d : DataW H}, d ∈ l → ∀ n ∈ d.weights P e, n ∈ DataW.weightsAll P e l
  | [], _, h, _, _ => by cases h
  | d0 :: l, d, h, n, hn => by
    simp only [DataW.weightsAll, List.mem_append]
    rcases List.mem_cons.1 h with rfl | h
    · exact .inl hn
    · exact .inr (wAll_mem h n hn)
theorem i64_of_wf {n : Int} (h : (Lit.int .i64 n).wf = true) : -9223372036854775808 ≤ n ∧ n ≤ 9223372036854775807 := by
  have h1 := of_decide_eq_true (show decide (IntKind.i64.min ≤ n ∧ n ≤ IntKind.i64.max) = true from by simpa [Lit.wf] using h)
  rw [show IntKind.i64.min = -9223372036854775808 by rfl, show IntKind.i64.max = 9223372036854775807 by rfl] at h1
  exact h1
theorem ad_plain (b off x y : Nat) : (((⟨b, off, none⟩ : Addr).add x).add y) = ⟨b, off + x + y, none⟩ := by
  unfold Addr.add; split <;> split <;> simp_all
theorem open_order {H : Type} {enc : TypeId × Value → H} {W : World} : ∀ (N fuel : Nat) (c0 c1 c2 : Value) (x : DataW H × List MemPlace), fuel ≤ N →
    DataW.trod enc Tryd.prog W 0 (fun _ => true) true fuel 28 [c0, c1, c2] = some x → (∀ p ∈ x.2, p.block < W.heap.size) → (∀ n ∈ x.1.weights Tryd.prog 28, n ≤ reachBytes) →
    ∃ T, OIn W T (.agg #[c0, c1, c2]) := by
  intro N
  induction N with
  | zero =>
    intro fuel c0 c1 c2 x hN h _ _
    obtain rfl : fuel = 0 := by omega
    simp [DataW.trod] at h
  | succ N ih =>
    intro fuel c0 c1 c2 x hN h hp hw
    obtain ⟨xs, n0, hfu, hx, _, hlen, hf⟩ := DataW.trod_struct Tryd.underlying28 h
    match xs, hlen with
    | [y0, y1, y2], _ =>
      have h0 : DataW.trod enc Tryd.prog W 0 (fun _ => true) true n0 3 [c0] = some y0 := by simpa [cellsI] using hf 0 _ rfl
      have h1 : DataW.trod enc Tryd.prog W 0 (fun _ => true) true n0 3 [c1] = some y1 := by simpa [cellsI] using hf 1 _ rfl
      have h2 : DataW.trod enc Tryd.prog W 0 (fun _ => true) true n0 26 [c2] = some y2 := by simpa [cellsSO] using hf 2 _ rfl
      obtain ⟨k, e0, _, _⟩ := DataW.trod_int Tryd.underlying3 h0
      obtain ⟨n, e1, _, w1⟩ := DataW.trod_int Tryd.underlying3 h1
      obtain rfl : c0 = .int .i64 k := by simpa using e0
      obtain rfl : c1 = .int .i64 n := by simpa using e1
      obtain ⟨hn0, hn1⟩ := i64_of_wf w1
      subst hx
      have hp2 : ∀ p ∈ y2.2, p.block < W.heap.size := fun p hpp => hp p (by simp [hpp])
      have hw2 : ∀ n ∈ y2.1.weights Tryd.prog 26, n ≤ reachBytes := fun n hn => hw n (by
        simp only [DataW.weights, Tryd.underlying28]
        exact DataW.weights_mem_each (j := 2) rfl rfl n hn)
      rcases DataW.trod_slice Tryd.underlying26 h2 with ⟨e2, _⟩ | ⟨a, len, cap, elems, rest, nf, hnf, e2, hx2, _, hl, hm, hel, hat0, _⟩
      · obtain rfl : c2 = .slice none 0 0 := by simpa using e2
        exact ⟨.mk k n 0 (fun _ => .nil), none, 0, rfl, ⟨by decide, hn0, hn1⟩, fun h => absurd h (by decide)⟩
      · obtain rfl : c2 = .slice (some a) len cap := by simpa using e2
        subst hx2
        obtain ⟨b, off, spot⟩ := a
        have hlen5 : len ≤ 5864062014805 := by
          have := hw2 _ (by simp only [DataW.weights, Tryd.underlying26]; exact List.mem_cons_self ..)
          simp only [List.length_map, bytesO, reachBytes] at this
          omega
        rcases Nat.eq_zero_or_pos len with hz | hpos
        · subst hz
          exact ⟨.mk k n 0 (fun _ => .nil), _, cap, rfl, ⟨by decide, hn0, hn1⟩, fun h => absurd h (by decide)⟩
        have elem : ∀ i, i < len → ∃ a0 a1 a2 y, W.cell? (((⟨b, off, spot⟩ : Addr).add (i * 3)).add 0) = some a0 ∧ W.cell? (((⟨b, off, spot⟩ : Addr).add (i * 3)).add 1) = some a1 ∧ W.cell? (((⟨b, off, spot⟩ : Addr).add (i * 3)).add 2) = some a2 ∧
            DataW.trod enc Tryd.prog W 0 (fun _ => true) true nf 28 [a0, a1, a2] = some y ∧ y ∈ elems := by
          intro i hi
          have h3 := hat0 i hi
          rw [cellsO, List.getElem?_eq_getElem (by omega), Option.bind_eq_some_iff] at h3
          obtain ⟨cs', hc, ht⟩ := h3
          obtain ⟨_, hcl, hat⟩ := World.cells?_some hc
          match cs', hcl with
          | [a0, a1, a2], _ => exact ⟨a0, a1, a2, _, hat 0 (by decide), hat 1 (by decide), hat 2 (by decide), ht, List.getElem_mem _⟩
        have hspot : spot = none := by
          obtain ⟨a0, _, _, _, q0, _⟩ := elem 0 hpos
          simpa [Addr.add] using World.cell?_spot q0
        subst hspot
        have sub : ∀ i, i < len → ∃ T a0 a1 a2, W.cell? ⟨b, off + i * 3, none⟩ = some a0 ∧ W.cell? ⟨b, off + i * 3 + 1, none⟩ = some a1 ∧ W.cell? ⟨b, off + i * 3 + 2, none⟩ = some a2 ∧ OIn W T (.agg #[a0, a1, a2]) := by
          intro i hi
          obtain ⟨a0, a1, a2, y, q0, q1, q2, ht, hy⟩ := elem i hi
          rw [ad_plain] at q0 q1 q2
          obtain ⟨T, hT⟩ := ih nf a0 a1 a2 y (by omega) ht (fun p hpp => hp2 p (by simp only [List.mem_append, List.mem_flatMap]; exact .inr ⟨y, .inl hy, hpp⟩))
            (fun n hn => hw2 n (by
              simp only [DataW.weights, Tryd.underlying26]
              exact List.mem_cons_of_mem _ (List.mem_append_left _ (wAll_mem (List.mem_map.2 ⟨y, hy, rfl⟩) n hn))))
          exact ⟨T, a0, a1, a2, q0, q1, q2, hT⟩
        have hb : b < W.heap.size := by
          obtain ⟨_, _, _, _, q0, _⟩ := sub 0 hpos
          exact World.block_lt_of_cell? W _ q0
        let kid : Nat → Tr := fun i => if h : i < len then Classical.choose (sub i h) else .nil
        refine ⟨.mk k n len kid, _, cap, rfl, ⟨hlen5, hn0, hn1⟩, fun _ => ⟨b, off, rfl, hb, fun i hi => ?_⟩⟩
        obtain ⟨a0, a1, a2, q0, q1, q2, hT⟩ := Classical.choose_spec (sub i hi)
        have e : kid i = Classical.choose (sub i hi) := by simp only [kid]; rw [dif_pos hi]
        exact ⟨a0, a1, a2, q0, q1, q2, by rw [e]; exact hT⟩
/-- An argument. -/
theorem open_order_arg {H : Type} {enc : TypeId × Value → H} {W : World} {base : Nat} {v : Value} {d : DataW H} {p : List MemPlace} (hv : Value.okWide Tryd.prog W .any base 28 v) (h : DataW.Trod enc Tryd.prog W 0 (fun _ => true) true 28 v d p)
    (hp : ∀ x ∈ p, x.block < W.heap.size) (hw : ∀ n ∈ d.weights Tryd.prog 28, n ≤ reachBytes) : ∃ T, OIn W T v := by
  obtain ⟨cs, rfl, hs⟩ := okWide_struct Tryd.underlying28 hv
  rw [cellsO] at hs
  obtain ⟨fuel, hf⟩ := h
  obtain ⟨l⟩ := cs
  match l, hs with
  | [c0, c1, c2], _ => exact open_order fuel fuel c0 c1 c2 _ (Nat.le_refl _) hf hp hw
end Go.Proofs.YtgjlldapnodfbaaDoor
