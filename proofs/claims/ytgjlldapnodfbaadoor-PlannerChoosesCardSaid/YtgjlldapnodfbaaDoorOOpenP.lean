/-
  An argument that is a policy, opened.
-/
import Derived.Test.YtgjlldapnodfbaaDoorOOpen
import Derived.Test.YtgjlldapnodfbaaDoorOHeads
namespace Go.Proofs.YtgjlldapnodfbaaDoor
open Go Go.RowKit Go.Fl Go.Ord Go.ChangeShapes Go.WideShapes Go.ChangeAt Go.Deep
set_option maxRecDepth 100000

theorem cellsP : Tryd.prog.cellsOf 24 = 3 := by kernel_rfl
theorem cellsSI : Tryd.prog.cellsOf 22 = 1 := by kernel_rfl
theorem bytesI : Tryd.prog.bytesOf 3 = 8 := by kernel_rfl
theorem open_ints {H : Type} {enc : TypeId × Value → H} {W : World} {fuel : Nat} {c : Value} {x : DataW H × List MemPlace}
    (h : DataW.trod enc Tryd.prog W 0 (fun _ => true) true fuel 22 [c] = some x) (hp : ∀ p ∈ x.2, p.block < W.heap.size) (hw : ∀ n ∈ x.1.weights Tryd.prog 22, n ≤ reachBytes) :
    ∃ l : List Int, FlIn W c l ∧ l.length ≤ 17592186044416 := by
  rcases DataW.trod_slice Tryd.underlying22 h with ⟨e2, _⟩ | ⟨a, len, cap, elems, rest, nf, hnf, e2, hx2, _, hl, hm, hel, hat0, _⟩
  · obtain rfl : c = .slice none 0 0 := by simpa using e2
    exact ⟨[], ⟨none, 0, rfl, fun h => absurd h (by decide)⟩, by decide⟩
  · obtain rfl : c = .slice (some a) len cap := by simpa using e2
    subst hx2
    obtain ⟨b, off, spot⟩ := a
    have hlen5 : len ≤ 17592186044416 := by
      have := hw _ (by simp only [DataW.weights, Tryd.underlying22]; exact List.mem_cons_self ..)
      simp only [List.length_map, bytesI, reachBytes] at this
      omega
    have elem : ∀ i, i < len → ∃ z : Int, W.cell? (((⟨b, off, spot⟩ : Addr).add (i * 1)).add 0) = some (.int .i64 z) := by
      intro i hi
      have h3 := hat0 i hi
      rw [cellsI, List.getElem?_eq_getElem (by omega), Option.bind_eq_some_iff] at h3
      obtain ⟨cs', hc, ht⟩ := h3
      obtain ⟨_, hcl, hat⟩ := World.cells?_some hc
      match cs', hcl with
      | [a0], _ =>
        obtain ⟨k, e0, _, _⟩ := DataW.trod_int Tryd.underlying3 ht
        obtain rfl : a0 = .int .i64 k := by simpa using e0
        exact ⟨k, hat 0 (by decide)⟩
    rcases Nat.eq_zero_or_pos len with hz | hpos
    · subst hz
      exact ⟨[], ⟨_, _, rfl, fun h => absurd h (by decide)⟩, by decide⟩
    have hspot : spot = none := by
      obtain ⟨a0, q0⟩ := elem 0 hpos
      simpa [Addr.add] using World.cell?_spot q0
    subst hspot
    have elem2 : ∀ i, i < len → ∃ z : Int, W.cell? ⟨b, off + i, none⟩ = some (.int .i64 z) := fun i hi => by
      obtain ⟨z, q⟩ := elem i hi
      rw [ad_plain] at q
      exact ⟨z, by simpa using q⟩
    let f : Nat → Int := fun i => if h : i < len then Classical.choose (elem2 i h) else 0
    have hf : ∀ i, i < len → W.cell? ⟨b, off + i, none⟩ = some (.int .i64 (f i)) := fun i hi => by
      have e : f i = Classical.choose (elem2 i hi) := by simp only [f]; rw [dif_pos hi]
      rw [e]; exact Classical.choose_spec (elem2 i hi)
    refine ⟨(List.range len).map f, ⟨_, cap, by rw [List.length_map, List.length_range], fun _ => ⟨b, off, rfl, World.block_lt_of_cell? W _ (hf 0 hpos), fun i hi => ?_⟩⟩, by rw [List.length_map, List.length_range]; exact hlen5⟩
    have hi' : i < len := by simpa using hi
    have eg : ((List.range len).map f).getD i 0 = f i := by simp [List.getD_eq_getElem?_getD, hi']
    rw [eg]; exact hf i hi'
theorem open_policy {H : Type} {enc : TypeId × Value → H} {W : World} (fuel : Nat) (c0 c1 c2 : Value) (x : DataW H × List MemPlace)
    (h : DataW.trod enc Tryd.prog W 0 (fun _ => true) true fuel 24 [c0, c1, c2] = some x) (hp : ∀ p ∈ x.2, p.block < W.heap.size) (hw : ∀ n ∈ x.1.weights Tryd.prog 24, n ≤ reachBytes) :
    ∃ (q : Pol) (vf : Value), Value.agg #[c0, c1, c2] = .agg #[.int .i64 q.D, vf, .int .i64 q.P] ∧ FlIn W vf q.fl ∧ q.fl.length ≤ 17592186044416 := by
  obtain ⟨xs, n0, hfu, hx, _, hlen, hf⟩ := DataW.trod_struct Tryd.underlying24 h
  match xs, hlen with
  | [y0, y1, y2], _ =>
    have h0 : DataW.trod enc Tryd.prog W 0 (fun _ => true) true n0 3 [c0] = some y0 := by simpa [cellsI] using hf 0 _ rfl
    have h1 : DataW.trod enc Tryd.prog W 0 (fun _ => true) true n0 22 [c1] = some y1 := by simpa [cellsI, cellsSI] using hf 1 _ rfl
    have h2 : DataW.trod enc Tryd.prog W 0 (fun _ => true) true n0 3 [c2] = some y2 := by simpa [cellsI, cellsSI] using hf 2 _ rfl
    obtain ⟨k, e0, _, _⟩ := DataW.trod_int Tryd.underlying3 h0
    obtain ⟨n, e1, _, _⟩ := DataW.trod_int Tryd.underlying3 h2
    obtain rfl : c0 = .int .i64 k := by simpa using e0
    obtain rfl : c2 = .int .i64 n := by simpa using e1
    subst hx
    obtain ⟨l, hl1, hl2⟩ := open_ints h1 (fun p hpp => hp p (by simp [hpp])) (fun m hm => hw m (by
      simp only [DataW.weights, Tryd.underlying24]
      exact DataW.weights_mem_each (j := 1) rfl rfl m hm))
    exact ⟨⟨k, l, n⟩, c1, rfl, hl1, hl2⟩
/-- An argument. -/
theorem open_policy_arg {H : Type} {enc : TypeId × Value → H} {W : World} {base : Nat} {v : Value} {d : DataW H} {p : List MemPlace} (hv : Value.okWide Tryd.prog W .any base 24 v) (h : DataW.Trod enc Tryd.prog W 0 (fun _ => true) true 24 v d p)
    (hp : ∀ x ∈ p, x.block < W.heap.size) (hw : ∀ n ∈ d.weights Tryd.prog 24, n ≤ reachBytes) : ∃ (q : Pol) (vf : Value), v = .agg #[.int .i64 q.D, vf, .int .i64 q.P] ∧ FlIn W vf q.fl ∧ q.fl.length ≤ 17592186044416 := by
  obtain ⟨cs, rfl, hs⟩ := okWide_struct Tryd.underlying24 hv
  rw [cellsP] at hs
  obtain ⟨fuel, hf⟩ := h
  obtain ⟨l⟩ := cs
  match l, hs with
  | [c0, c1, c2], _ => exact open_policy fuel c0 c1 c2 _ hf hp hw
end Go.Proofs.YtgjlldapnodfbaaDoor
