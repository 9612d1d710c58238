/-
  The orders to the left of an x: planner's heads.
-/
import Derived.Test.YtgjlldapnodfbaaDoorOHeads
namespace Go.Proofs.YtgjlldapnodfbaaDoor
open Go Go.RowKit Go.Fl Go.Ord Go.Pr

/-- The cells of leaves of length a, by their kinds. -/
def headCells (a : Int) (ks : List Int) : List Value := ks.flatMap fun k => [.int .i64 k, .int .i64 a, .slice none 0 0]
/-- A list of leaves. -/
def HL (w : World) (base : Nat) (v : Value) (a : Int) (ks : List Int) : Prop := w.ownsRow base 28 3 v ks.length (headCells a ks)
theorem HL.nil (w : World) (base : Nat) (a : Int) : HL w base (.slice none 0 0) a [] := World.ownsRow_nil _ _ _ _
theorem HL.kp {w w' : World} {base : Nat} {v : Value} {a : Int} {ks : List Int} (h : HL w base v a ks) (k : Kp w w') : HL w' base v a ks := k.owns h
theorem headCells_snoc (a : Int) (ks : List Int) (k : Int) : headCells a (ks ++ [k]) = headCells a ks ++ [.int .i64 k, .int .i64 a, .slice none 0 0] := by simp [headCells]
theorem HL.form {w : World} {base : Nat} {v : Value} {a : Int} {ks : List Int} (h : HL w base v a ks) : ∃ o c, v = .slice o ks.length c := by
  rcases h.2 with ⟨h1, h2⟩ | ⟨g, cap, cur, h1, _⟩
  · exact ⟨none, 0, by rw [h1, h2]⟩
  · exact ⟨_, _, h1⟩
theorem headCells_at (a : Int) : ∀ (ks : List Int) (i : Nat) (h : i < ks.length), (headCells a ks)[i * 3]? = some (.int .i64 ks[i]) ∧ (headCells a ks)[i * 3 + 1]? = some (.int .i64 a) ∧ (headCells a ks)[i * 3 + 2]? = some (.slice none 0 0)
  | [], i, h => absurd h (Nat.not_lt_zero _)
  | k :: ks, 0, _ => by simp [headCells]
  | k :: ks, i + 1, h => by
    have := headCells_at a ks i (by simpa using h)
    have e : headCells a (k :: ks) = [.int .i64 k, .int .i64 a, .slice none 0 0] ++ headCells a ks := by simp [headCells]
    rw [e]
    refine ⟨?_, ?_, ?_⟩
    · rw [List.getElem?_append_right (by simp; omega), show (i + 1) * 3 - [Value.int .i64 k, .int .i64 a, .slice none 0 0].length = i * 3 by simp; omega]; simpa using this.1
    · rw [List.getElem?_append_right (by simp; omega), show (i + 1) * 3 + 1 - [Value.int .i64 k, .int .i64 a, .slice none 0 0].length = i * 3 + 1 by simp; omega]; simpa using this.2.1
    · rw [List.getElem?_append_right (by simp; omega), show (i + 1) * 3 + 2 - [Value.int .i64 k, .int .i64 a, .slice none 0 0].length = i * 3 + 2 by simp; omega]; simpa using this.2.2
theorem HL.cell {w : World} {base g cap : Nat} {a : Int} {ks : List Int} (h : HL w base (.slice (some ⟨g, 0, none⟩) ks.length cap) a ks) (i : Nat) (hi : i < ks.length) :
    w.cell? ⟨g, i * 3, none⟩ = some (.int .i64 ks[i]) ∧ w.cell? ⟨g, i * 3 + 1, none⟩ = some (.int .i64 a) ∧ w.cell? ⟨g, i * 3 + 2, none⟩ = some (.slice none 0 0) := by
  obtain ⟨h1, h2, h3⟩ := headCells_at a ks i hi
  exact ⟨(h.cellAt _ (by omega)).trans h1, (h.cellAt _ (by omega)).trans h2, (h.cellAt _ (by omega)).trans h3⟩
theorem HL.some {w : World} {base : Nat} {v : Value} {a : Int} {ks : List Int} (h : HL w base v a ks) (hn : 0 < ks.length) : ∃ g c, v = .slice (some ⟨g, 0, none⟩) ks.length c := by
  obtain ⟨g, cap, e, _⟩ := World.ownsRow.form h hn
  exact ⟨g, cap, e⟩
set_option maxRecDepth 100000 in
set_option maxHeartbeats 2000000 in
theorem heads_any (p : Pol) (bc bm : Nat) (vf : Value) (a : Int) (w : World) (hl : p.fl.length ≤ 1000000) (hc : CH w bc p vf bm) (hv : FlIn w vf p.fl) :
    Calls Tryd.prog 46 #[.pointer (some ⟨bc, 0, none⟩), .int .i64 a] w fun e w' => ∃ v, e = .returned v ∧ HL w' w.heap.size v a (p.heads a) ∧ Kp w w' := by
  obtain ⟨i0, hi, hz⟩ := Option.map_eq_some_iff.1 info_order
  have hz0 : i0.zero = some (.agg #[.int .i64 0, .int .i64 0, .slice none 0 0]) := by injection hz
  have hz1 : i0.size = 3 := by injection hz with _ h; injection h
  have hz2 : i0.bytes = 40 := by injection hz with _ h; injection h
  clear hz
  have hF : Hid (∀ w', Kp w w' → Calls Tryd.prog 68 #[.pointer (some ⟨bc, 0, none⟩), .int .i64 a] w' fun e w'' => e = .returned (.bool (p.flies a)) ∧ w'' = w') := Lib.hid fun w' hk => flies_any p bc bm vf a w' hl (hc.kp hk) (hv.kp hk)
  have hDi := Lib.hid fun w => Direct_any a w
  have hFl := Lib.hid fun w => Fly_any a w
  have q0 := cell_of_row w bc 0 _ _ _ hc
  have HH : Hid (p.heads a = (if a ≤ p.D then [1] else []) ++ (if p.flies a then [2] else [])) := Lib.hid rfl
  obtain ⟨D, hD⟩ : ∃ D, p.D = D := ⟨_, rfl⟩
  obtain ⟨b, hb⟩ : ∃ b, p.flies a = b := ⟨_, rfl⟩
  obtain ⟨hs, hhs⟩ : ∃ hs, p.heads a = hs := ⟨_, rfl⟩
  rw [hD, hb, hhs] at HH
  rw [hD] at q0
  rw [hb] at hF
  rw [hhs]
  clear hc hD hb hhs hv
  by_cases hD : a ≤ D
  · have d : decide (a ≤ D) = true := by simpa using hD
    rw [if_pos hD] at HH
    cases b
    · go_enter Tryd.func46, Tryd.ntmps46
      go_wp2_with (first
        | (go_at_call 67; (with_reducible refine (hDi.out _).mono ?_); rintro e w1 ⟨rfl, hk1⟩)
        | (go_at_call 68; (with_reducible refine (hF.out _ hk2).mono ?_); rintro e w3 ⟨rfl, rfl⟩)
        | (at_builtin; refine wpList_append_own _ rfl (.tmp 13) (.tmp 16) 26 rfl w.heap.size 28 i0 (.agg #[.int .i64 0, .int .i64 0, .slice none 0 0]) 3 40 Tryd.underlying26 hi hz0 hz1 hz2 rfl (by decide) _ _ _ rfl (World.ownsRow_nil _ _ _ _) ⟨w1.heap.size, 0, none⟩ 1 1 [.int .i64 1, .int .i64 a, .slice none 0 0] rfl rfl (World.news_of_block (heap_alloc_new w1 _)) (by intro u hu; simp at hu; rcases hu with rfl | rfl | rfl <;> rfl) (by decide) (by decide) (by have := hk1.size; simp; omega) ?_; intro v2 w2 hown2 hg2 _; have hk2 : Kp w w2 := (hk1.alloc _).grown hg2 (fun k e => by cases e)))
      go_ret
      refine ⟨_, rfl, ?_, hk2⟩
      rw [HH.out]
      exact hown2
    · go_enter Tryd.func46, Tryd.ntmps46
      go_wp2_with (first
        | (go_at_call 67; (with_reducible refine (hDi.out _).mono ?_); rintro e w1 ⟨rfl, hk1⟩)
        | (go_at_call 68; (with_reducible refine (hF.out _ hk2).mono ?_); rintro e w3 ⟨rfl, rfl⟩)
        | (go_at_call 69; (with_reducible refine (hFl.out _).mono ?_); rintro e w4 ⟨rfl, hk4⟩)
        | (at_builtin; refine wpList_append_own _ rfl (.tmp 13) (.tmp 16) 26 rfl w.heap.size 28 i0 (.agg #[.int .i64 0, .int .i64 0, .slice none 0 0]) 3 40 Tryd.underlying26 hi hz0 hz1 hz2 rfl (by decide) _ _ _ rfl (World.ownsRow_nil _ _ _ _) ⟨w1.heap.size, 0, none⟩ 1 1 [.int .i64 1, .int .i64 a, .slice none 0 0] rfl rfl (World.news_of_block (heap_alloc_new w1 _)) (by intro u hu; simp at hu; rcases hu with rfl | rfl | rfl <;> rfl) (by decide) (by decide) (by have := hk1.size; simp; omega) ?_; intro v2 w2 hown2 hg2 _; have hk2 : Kp w w2 := (hk1.alloc _).grown hg2 (fun k e => by cases e))
        | (at_builtin; refine wpList_append_own _ rfl (.tmp 21) (.tmp 24) 26 rfl w.heap.size 28 i0 (.agg #[.int .i64 0, .int .i64 0, .slice none 0 0]) 3 40 Tryd.underlying26 hi hz0 hz1 hz2 rfl (by decide) _ _ _ rfl ((hk4.alloc _).owns hown2) ⟨w4.heap.size, 0, none⟩ 1 1 [.int .i64 2, .int .i64 a, .slice none 0 0] rfl rfl (World.news_of_block (heap_alloc_new w4 _)) (by intro u hu; simp at hu; rcases hu with rfl | rfl | rfl <;> rfl) (by decide) (by decide) (by have := hk2.size; have := hk4.size; simp; omega) ?_; intro v5 w5 hown5 hg5 _; have hk5 : Kp w w5 := ((hk2.trans hk4).alloc _).grown hg5 (fun k e => (hown2.lt k e).1)))
      go_ret
      refine ⟨_, rfl, ?_, hk5⟩
      rw [HH.out]
      exact hown5
  · have d : decide (a ≤ D) = false := by simpa using hD
    rw [if_neg hD] at HH
    cases b
    · go_enter Tryd.func46, Tryd.ntmps46
      go_wp2_with (go_at_call 68; (with_reducible refine (hF.out _ (Kp.refl _)).mono ?_); rintro e w3 ⟨rfl, rfl⟩)
      go_ret
      refine ⟨_, rfl, ?_, Kp.refl _⟩
      rw [HH.out]
      exact HL.nil _ _ _
    · go_enter Tryd.func46, Tryd.ntmps46
      go_wp2_with (first
        | (go_at_call 68; (with_reducible refine (hF.out _ (Kp.refl _)).mono ?_); rintro e w3 ⟨rfl, rfl⟩)
        | (go_at_call 69; (with_reducible refine (hFl.out _).mono ?_); rintro e w4 ⟨rfl, hk4⟩)
        | (at_builtin; refine wpList_append_own _ rfl (.tmp 21) (.tmp 24) 26 rfl w3.heap.size 28 i0 (.agg #[.int .i64 0, .int .i64 0, .slice none 0 0]) 3 40 Tryd.underlying26 hi hz0 hz1 hz2 rfl (by decide) _ _ _ rfl (World.ownsRow_nil _ _ _ _) ⟨w4.heap.size, 0, none⟩ 1 1 [.int .i64 2, .int .i64 a, .slice none 0 0] rfl rfl (World.news_of_block (heap_alloc_new w4 _)) (by intro u hu; simp at hu; rcases hu with rfl | rfl | rfl <;> rfl) (by decide) (by decide) (by have := hk4.size; simp; omega) ?_; intro v5 w5 hown5 hg5 _; have hk5 : Kp w3 w5 := (hk4.alloc _).grown hg5 (fun k e => by cases e)))
      go_ret
      refine ⟨_, rfl, ?_, hk5⟩
      rw [HH.out]
      exact hown5
end Go.Proofs.YtgjlldapnodfbaaDoor
