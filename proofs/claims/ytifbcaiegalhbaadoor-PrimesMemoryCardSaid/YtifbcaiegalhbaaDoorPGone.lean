/-
  The walk of timbrelaw05.gone: all that Divisors tells, in a list of its own.
-/
import Derived.Test.YtifbcaiegalhbaaDoorPIter
namespace Go.Proofs.YtifbcaiegalhbaaDoor
open Go Go.RowKit Go.Shelf Go.Fl Go.Pr
attribute [local go_sem] Oper.semAt_some

theorem eqlIn_func {P : Program} (d : Nat) (t : TypeId) (ps rs : Array TypeId) (v : Bool) (f : Fn) (a b : Array Value) (w : World) (h : P.underlying t = some (.func ps rs v)) : (Op.equalIn (d + 1) t (.func f a b) .nilFunc).run P w = .ok false w := by
  simp [Op.equalIn, run_underlying h]
theorem eql_func (f : Fn) (a b : Array Value) (w : World) : (binOp BinOp.eql 56 (.func f a b) .nilFunc).run Tryd.prog w = .ok (.bool false) w := by
  simp only [binOp]
  simp [Op.equal, Op.maxDepth, eqlIn_func 9999 56 _ _ _ f a b w Tryd.underlying56]
attribute [local go_sem] eql_func
set_option maxRecDepth 100000 in
set_option maxHeartbeats 4000000 in
theorem gone_in (F : Fence) (n : Nat) (h3 : F.fn 29) (h4 : F.fn 37) (h5 : F.fn 47) (hro : F.round = none) (hn : 3 ≤ n) (m : Int) (w : World) :
    CallsIn F n Tryd.prog 29 #[.int .i64 m] w fun e W' => ∃ v, e = .returned (.tuple #[v, .bool true]) ∧ IL W' w.heap.size v (divsI m) ∧ Kp w W' := by
  have h1 : 1 ≤ n := by omega
  obtain ⟨i0, hi, hz0, hz1, hz2⟩ := info_parts info_i
  have hle := divsI_le m
  refine callsIn_of_wp_marks Tryd.func29 rfl h3 ?_ hro
  simp only [Tryd.ntmps29, List.size_toArray, List.length_cons, List.length_nil, Nat.reduceAdd, Nat.reduceSub, Array.replicate_succ, Array.replicate_zero, List.push_toArray, List.append_toArray, List.nil_append, List.cons_append]
  gi_wp2_with (gi_at_call 37; refine (div_in F (n - 1) h4 hro _ _).mono ?_; rintro e w' ⟨rfl, rfl⟩)
  have bO := Boxed.new ((((w.alloc (.cells #[.slice none 0 0] 44)).alloc (.cells #[.bool false] 4)).alloc (.cells #[.int .i64 m] 3))) 44 (.slice none 0 0)
  have bN := Boxed.new ((w.alloc (.cells #[.slice none 0 0] 44)).alloc (.cells #[.bool false] 4)) 3 (.int .i64 m)
  have bR := Boxed.new (w.alloc (.cells #[.slice none 0 0] 44)) 4 (.bool false)
  have bL := Boxed.new w 44 (.slice none 0 0)
  have bN1 := bN.alloc (.cells #[.slice none 0 0] 44)
  have bR1 := (bR.alloc (.cells #[.int .i64 m] 3)).alloc (.cells #[.slice none 0 0] 44)
  have bL1 := ((bL.alloc (.cells #[.bool false] 4)).alloc (.cells #[.int .i64 m] 3)).alloc (.cells #[.slice none 0 0] 44)
  have hB0 : Below w.heap.size w ((((w.alloc (.cells #[.slice none 0 0] 44)).alloc (.cells #[.bool false] 4)).alloc (.cells #[.int .i64 m] 3)).alloc (.cells #[.slice none 0 0] 44)) := ((((Below.refl _ w).alloc (Nat.le_refl _) _).alloc (by simp) _).alloc (by simp; omega) _).alloc (by simp; omega) _
  simp only [World.size_alloc] at bO bN1 bR1 bL1
  clear bN bR bL
  obtain ⟨W0, hW0⟩ : ∃ W0, (((w.alloc (.cells #[.slice none 0 0] 44)).alloc (.cells #[.bool false] 4)).alloc (.cells #[.int .i64 m] 3)).alloc (.cells #[.slice none 0 0] 44) = W0 := ⟨_, rfl⟩
  have hsz : W0.heap.size = w.heap.size + 1 + 1 + 1 + 1 := by rw [← hW0]; simp
  simp only [hW0] at bO bN1 bR1 bL1 hB0 ⊢
  clear hW0
  refine wpIn_rangeFunc_ownG hro h1 (gf := 47) (lb := #[.pointer (some ⟨w.heap.size + 1 + 1, 0, none⟩)]) rfl h5 (enters_of Tryd.func47 (by kernel_rfl) rfl)
    (div_stops F (n - 1) h5 hro (by omega) (w.heap.size + 1 + 1) (w.heap.size + 1 + 1 + 1) m W0 (by omega) (by omega) bN1.cell) belowK_t (belowK_b (by omega)) (Below.refl _ _) (fun _ => rfl)
    (fun pre W => (∃ v, Boxed W (w.heap.size + 1 + 1 + 1) 44 v ∧ W.ownsRow (w.heap.size + 1 + 1 + 1) 3 1 v (id pre).length (ints (id pre)) ∧ True) ∧ Below (w.heap.size + 1 + 1 + 1) W0 W)
    (fun _ _ _ => False)
    (OwnFrom.and (Own.from (holdsRow_own (w.heap.size + 1 + 1 + 1) (w.heap.size + 1 + 1 + 1) 44 3 1 (fun pre => (id pre).length) (fun pre => ints (id pre)) (fun _ _ => True)) _) (ownFrom_below (by omega) (by omega)))
    (fun _ _ _ _ _ hs _ _ => hs)
    ⟨⟨_, bO, World.ownsRow_nil _ _ _ _, trivial⟩, Below.refl _ _⟩
    (fun x => { tmps := #[.int .i64 m, undef, .pointer (some ⟨w.heap.size, 0, none⟩), .pointer (some ⟨w.heap.size + 1, 0, none⟩), .func (.func 47) #[] #[.pointer (some ⟨w.heap.size + 1 + 1, 0, none⟩)], .pointer (some ⟨w.heap.size + 1 + 1 + 1, 0, none⟩), .int .i64 ((x : Nat) : Int), .int .i64 m, .func (.func 47) #[] #[.pointer (some ⟨w.heap.size + 1 + 1, 0, none⟩)], .func (.func 47) #[] #[.pointer (some ⟨w.heap.size + 1 + 1, 0, none⟩)], .bool false, .func (.func 47) #[] #[.pointer (some ⟨w.heap.size + 1 + 1, 0, none⟩)], .int .i64 ((x : Nat) : Int), undef, undef, undef, undef, undef, undef, undef, undef], defers := [] }) ?assign ?body ?done ?stop
  case assign =>
    intro l x W K hK
    gi_wp2
    exact hK
  case body =>
    rintro l pre x W ⟨⟨v, hv, hrow, -⟩, hB⟩ hlt
    simp only [id] at hrow
    have hc := hv.cell
    have hBs := hB.size
    have d5 : decide ((5000 : Int) < (pre.length : Int) + 1) = false := by simp; omega
    have d6 : ¬ (5000 : Int) < (pre.length : Int) + 1 := by omega
    gi_wp2_with (gi_at_builtin; refine wpListIn_append_own _ rfl _ _ 44 rfl (w.heap.size + 1 + 1 + 1) 3 i0 (.int .i64 0) 1 8 Tryd.underlying44 hi hz0 hz1 hz2 rfl (by decide) _ _ _ rfl (hrow.alloc _) ⟨W.heap.size, 0, none⟩ 1 1 [.int .i64 (x : Int)] rfl rfl (cell_one_new _ _ _) (by simp [Value.oneCell']) (by unfold maxLen; omega) (by omega) (by simp; omega) ?_; intro v' w1 hown' hgrow _; obtain ⟨g', cap', rfl⟩ := ownsRow_succ hown'; obtain ⟨hv1, hv2, hr2, hk2, hb2⟩ := hv.appended (by decide) hrow (by omega) (Nat.le_refl _) hown' hgrow; have hc1 := hv1.cell; have hf1 := hv1.frozen)
    refine ⟨hk2.from _, hb2, ⟨_, hv2, ?_⟩, hB.trans hb2⟩
    rw [ints_snoc, List.length_append]
    exact hr2
  case done =>
    rintro D ys W hD rfl ⟨⟨v, hv, hrow, -⟩, hB⟩ hK
    simp only [id] at hrow
    obtain ⟨o, c, rfl⟩ := IL.form hrow
    have hc := hv.cell
    have bLW : Boxed W w.heap.size 44 (.slice none 0 0) := (hB.block _ (by omega)).trans bL1
    have bRW : Boxed W (w.heap.size + 1) 4 (.bool false) := (hB.block _ (by omega)).trans bR1
    have q1 := bLW.cell
    have q2 := bLW.frozen
    have q3 := bRW.cell
    have q4 := bRW.frozen
    gi_wp2
    obtain ⟨W2, hW2⟩ : ∃ W2, W.setCell ⟨w.heap.size, 0, none⟩ (.slice o (divsI m).length c) = W2 := ⟨_, rfl⟩
    have a1 : Boxed W2 w.heap.size 44 (.slice o (divsI m).length c) := by rw [← hW2]; exact bLW.set _
    have a2 : Boxed W2 (w.heap.size + 1) 4 (.bool false) := by rw [← hW2]; exact bRW.other (by omega) _
    have a3 : IL W2 (w.heap.size + 1 + 1 + 1) (.slice o (divsI m).length c) (divsI m) := by
      rw [← hW2]
      exact World.ownsRow.kept hrow (grownBy_setCell' W _ _) (.inr (bLW.not_row (by decide) hrow).symm)
    have a4 : Kp w W2 := by rw [← hW2]; exact Kp.setCell (hB0.trans (hB.mono (by omega))) (Nat.le_refl _) _
    have a5 : KeepsOthers W W2 := by rw [← hW2]; exact KeepsOthers.setCell _ _ _
    rw [hW2]
    clear hW2
    obtain ⟨W3, hW3⟩ : ∃ W3, W2.setCell ⟨w.heap.size + 1, 0, none⟩ (.bool true) = W3 := ⟨_, rfl⟩
    have b1 : Boxed W3 w.heap.size 44 (.slice o (divsI m).length c) := by rw [← hW3]; exact a1.other (by omega) _
    have b2 : Boxed W3 (w.heap.size + 1) 4 (.bool true) := by rw [← hW3]; exact a2.set _
    have b3 : IL W3 (w.heap.size + 1 + 1 + 1) (.slice o (divsI m).length c) (divsI m) := by
      rw [← hW3]
      exact World.ownsRow.kept a3 (grownBy_setCell' W2 _ _) (.inr (a2.not_row (by decide) a3).symm)
    have b4 : Kp w W3 := by rw [← hW3]; exact a4.setCell (by simp) _
    have b5 : KeepsOthers W W3 := by rw [← hW3]; exact a5.trans (KeepsOthers.setCell _ _ _)
    rw [hW3]
    clear hW3
    have hK' := b5.same D _ hK rfl
    refine ⟨by simp, .inl ⟨_, _, rfl, run_takeDeferred hK', ?_⟩⟩
    have k1 := cell_kept b1.cell (grownBy_putObj' _ D (.deferred none)) (fun r e => by cases e; exact ⟨_, hK', rfl⟩)
    have k2 := cell_kept b2.cell (grownBy_putObj' _ D (.deferred none)) (fun r e => by cases e; exact ⟨_, hK', rfl⟩)
    refine ⟨.tuple #[.slice o (divsI m).length c, .bool true], ?_, _, rfl, ?_, ?_⟩
    · simp [results, Tryd.f29, go_sem, k1, k2]
    · exact IL.mono (ownsRow_putObj b3 _ hK' rfl) (by omega)
    · exact Below.trans b4 (belowK_b (w := w) (Nat.le_refl _) W3 D _ _ (by omega) hK' rfl rfl)
  case stop =>
    rintro D c pre W _ _ h _
    exact h.elim
/-- The same as a plain call. -/
theorem gone_any (m : Int) (w : World) :
    Calls Tryd.prog 29 #[.int .i64 m] w fun e W' => ∃ v, e = .returned (.tuple #[v, .bool true]) ∧ IL W' w.heap.size v (divsI m) ∧ Kp w W' :=
  (callsIn_wide (n := 3)).1 (gone_in Fence.wide 3 trivial trivial trivial rfl (by omega) m w)
end Go.Proofs.YtifbcaiegalhbaaDoor
