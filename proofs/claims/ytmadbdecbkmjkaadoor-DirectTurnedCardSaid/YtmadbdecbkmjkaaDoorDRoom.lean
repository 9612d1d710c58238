/-
  The walks of room, kept, lives of layer 10's statements.
-/
import Derived.Test.YtmadbdecbkmjkaaDoorDList
namespace Go.Proofs.YtmadbdecbkmjkaaDoor
open Go Go.RowKit Go.Fl Go.Roots

theorem owns_cap {w : World} {base : Nat} {e : TypeId} {g n cap : Nat} {xs : List Value} (h : w.ownsRow base e 1 (.slice (some ⟨g, 0, none⟩) n cap) n xs) : n ≤ cap ∧ cap ≤ maxLen := by
  rcases h.2 with ⟨h2, _⟩ | ⟨g', cap', cur, h2, _, _, h3, h4, _⟩
  · cases h2
  · cases h2; exact ⟨h3, h4⟩
abbrev C77 : Value := .complex .f64 4635118810238550016 0
abbrev C88 : Value := .complex .f64 4635892866424504320 0
set_option maxRecDepth 100000 in
set_option maxHeartbeats 1000000 in
theorem room_any (g n cap base : Nat) (xs : List Value) (w : World) (hn : n ≤ 8796093022206) (hx : w.ownsRow base 27 1 (.slice (some ⟨g, 0, none⟩) n cap) n xs) (ho : ∀ u ∈ xs, u.oneCell' = true) :
    Calls Tryd.prog 14 #[.slice (some ⟨g, 0, none⟩) n cap] w fun e w' => ∃ G C, e = .returned (.tuple #[.slice (some ⟨G, 0, none⟩) n C, .slice (some ⟨G, 0, none⟩) (n + 2) C]) ∧
      w'.ownsRow w.heap.size 27 1 (.slice (some ⟨G, 0, none⟩) (n + 2) C) (n + 2) (xs ++ [C77, C88]) ∧ Kp w w' := by
  obtain ⟨i0, hi, hz0, hz1, hz2⟩ := info_parts info_c
  have hown0 := owns_empty w
  have hk0 : Kp w (w.alloc (.cells #[] 27)) := (Kp.refl w).alloc _
  have hxl := hx.1
  go_enter Tryd.func14, Tryd.ntmps14
  go_wp2_with (at_builtin; refine wpList_append_own _ rfl (.tmp 5) (.tmp 6) 26 rfl w.heap.size 27 i0 (.complex .f64 0 0) 1 16 Tryd.underlying26 hi hz0 hz1 hz2 rfl (by decide) _ _ _ rfl hown0 ⟨g, 0, none⟩ n cap xs rfl hxl ?c1 ho ?c3 ?c4 ?c5 ?_)
  case c1 => exact (hk0.owns hx).cells rfl
  case c3 => unfold maxLen; omega
  case c4 => omega
  case c5 => simp
  intro v1 w1 hown1 hg1 _
  have hk1 : Kp w w1 := hk0.grown hg1 (fun j hj => (hown0.lt j hj).1)
  try simp only [Nat.zero_add, List.nil_append] at hown1
  clear hg1 hown0
  go_wp2_with (at_builtin; refine wpList_append_own _ rfl (.tmp 7) (.tmp 8) 26 rfl w.heap.size 27 i0 (.complex .f64 0 0) 1 16 Tryd.underlying26 hi hz0 hz1 hz2 rfl (by decide) _ _ _ rfl (hown1.alloc _) ⟨w1.heap.size, 0, none⟩ 2 2 [C77, C88] rfl rfl ?d1 ?d2 ?d3 ?d4 ?d5 ?_)
  case d1 => exact (World.ownsRow_lit (base := w1.heap.size) (e := 27) (size := 1) w1 #[C77, C88] 2 (Nat.le_refl _) (by decide) rfl).cells rfl
  case d2 => simp [Value.oneCell']
  case d3 => unfold maxLen; omega
  case d4 => omega
  case d5 => have := hk1.size; simp; omega
  intro v2 w2 hown2 hg2 _
  have hk2 : Kp w w2 := (hk1.alloc _).grown hg2 (fun j hj => (hown1.lt j hj).1)
  obtain ⟨G, C, rfl⟩ := owns_form hown2 (by omega)
  have hC := (owns_cap hown2).1
  have hC2 := (owns_cap hown2).2
  unfold maxLen at hC2
  have h1 : n ≤ C := by omega
  clear hg2 hown1 hk1 hk0
  go_wp2_with fail
  go_ret2
  exact ⟨G, C, rfl, hown2, hk2⟩
set_option maxRecDepth 100000 in
set_option maxHeartbeats 1000000 in
theorem kept_any (G C n c2 base : Nat) (o : Option Addr) (xs : List Value) (f : Nat → Nat × Nat) (w : World) (hn : n ≤ 8796093022206) (hx : w.ownsRow base 27 1 (.slice (some ⟨G, 0, none⟩) (n + 2) C) (n + 2) (xs ++ [C77, C88])) (hp : PartC f xs n) (hr : Rd w o n f) :
    Calls Tryd.prog 18 #[.slice (some ⟨G, 0, none⟩) (n + 2) C, .slice o n c2] w fun e w' => e = .returned (.bool true) ∧ Kp w w' := by
  have hxl := hx.1
  have hlx : xs.length = n := by simp at hxl; omega
  have hC := (owns_cap hx).1
  have hC2 := (owns_cap hx).2
  unfold maxLen at hC2
  have h1 : n ≤ C := by omega
  have q1 : w.cell? ⟨G, n, none⟩ = some C77 := by rw [hx.cellAt n (by omega), List.getElem?_append_right (by omega), hlx, Nat.sub_self]; rfl
  have q2 : w.cell? ⟨G, n + 1, none⟩ = some C88 := by rw [hx.cellAt (n + 1) (by omega), List.getElem?_append_right (by omega), hlx, Nat.add_sub_cancel_left]; rfl
  have HR : Hid (Rd w (some ⟨G, 0, none⟩) n f) := Lib.hid (Rd.of_has (Has.own hx (by omega) fun j hj => by
    obtain ⟨c, s, e1, e2⟩ := hp j hj
    exact ⟨c, s, by rw [List.getElem?_append_left (by omega)]; exact e1, e2⟩))
  have e0 := cn_0
  have t1 : (ord (cn 4635118810238550016) (cn 4635118810238550016) == some .eq) = true := by decide +kernel
  have t2 : (ord (cn 4635892866424504320) (cn 4635892866424504320) == some .eq) = true := by decide +kernel
  have t3 : (ord 0 0 == some .eq) = true := by decide +kernel
  have ee : ((n : Int) + 2 == (n : Int) + 2) = true := by simp
  clear hx hxl hp hC hC2 hlx
  go_enter Tryd.func18, Tryd.ntmps18
  go_wp2_with (go_at_call 17; (with_reducible refine (dsameList_yes _ _ n _ _ f _ (by omega) HR.out hr).mono ?_); rintro e w1 ⟨rfl, hk⟩; have q1' := hk.later q1; have q2' := hk.later q2)
  go_ret
  exact ⟨rfl, hk⟩
/-- Literal lists. -/
def LF (l : List (Nat × Nat)) (j : Nat) : Nat × Nat := ((cn (l.getD j (0, 0)).1), cn (l.getD j (0, 0)).2)
theorem Has.lit (w : World) (l : List (Nat × Nat)) (hm : l.length ≤ maxLen) : Has (w.alloc (.cells (l.map fun p => Value.complex .f64 p.1 p.2).toArray 27)) w.heap.size l.length (LF l) := by
  have h := World.ownsRow_lit (base := w.heap.size) (e := 27) (size := 1) w (l.map fun p => Value.complex .f64 p.1 p.2).toArray l.length (Nat.le_refl _) hm (by simp)
  refine Has.own h (Nat.le_refl _) fun j hj => ?_
  refine ⟨(l.getD j (0, 0)).1, (l.getD j (0, 0)).2, ?_, rfl, rfl⟩
  simp [List.getElem?_eq_getElem hj, List.getD_eq_getElem?_getD]
/-- An element of an answer, and how it compares. -/
theorem at_part {w : World} {base g n cap : Nat} {xs : List Value} {f : Nat → Nat × Nat} (ho : w.ownsRow base 27 1 (.slice (some ⟨g, 0, none⟩) n cap) n xs) (hp : PartC f xs n) (j : Nat) (hj : j < n) (a b : Nat)
    (h1 : (ord (f j).1 a == some .eq) = true) (h2 : (ord (f j).2 b == some .eq) = true) :
    ∃ c s, w.cell? ⟨g, j, none⟩ = some (.complex .f64 c s) ∧ (ord (cn c) a == some .eq) = true ∧ (ord (cn s) b == some .eq) = true := by
  obtain ⟨c, s, h3, h4, h5⟩ := hp j hj
  exact ⟨c, s, by rw [ho.cellAt j (by omega)]; exact h3, by rw [h4]; exact h1, by rw [h5]; exact h2⟩
abbrev L12 : List (Nat × Nat) := [(4607182418800017408, 0), (4611686018427387904, 0)]
abbrev L31 : List (Nat × Nat) := [(4613937818241073152, 0), (13830554455654793216, 0)]
abbrev L579 : List (Nat × Nat) := [(4617315517961601024, 0), (4619567317775286272, 0), (4621256167635550208, 0)]
set_option maxRecDepth 100000 in
set_option maxHeartbeats 4000000 in
theorem dlives_any (w : World) :
    Calls Tryd.prog 8 #[] w fun e w' => e = .returned (.bool true) ∧ Kp w w' := by
  have e0 := cn_0
  go_enter Tryd.func8, Tryd.ntmps8
  go_wp2_with (first
    | (go_at_call 9; (refine (Forward_any _ 2 _ _ _ (by omega) (by omega) (Has.lit _ L12 (by decide))).mono ?_); rintro e w1 ⟨g1, x1, rfl, ho1, hp1, hk1⟩;
       obtain ⟨c0, s0, q0, p0, p0'⟩ := at_part ho1 hp1 0 (by omega) (cn 4613937818241073152) 0 (by decide +kernel) (by decide +kernel);
       obtain ⟨c1, s1, q1, p1, p1'⟩ := at_part ho1 hp1 1 (by omega) (cn 13830554455654793216) 0 (by decide +kernel) (by decide +kernel);
       have hka := ((Kp.refl w).alloc (.cells #[.complex .f64 4607182418800017408 0, .complex .f64 4611686018427387904 0] 27)).trans hk1; clear ho1 hp1 hk1)
    | (go_at_call 11; (refine (Inverse_any _ 2 _ _ _ (by omega) (by omega) (Has.lit _ L31 (by decide))).mono ?_); rintro e w2 ⟨g2, x2, rfl, ho2, hp2, hk2⟩;
       obtain ⟨c2, s2, q2, p2, p2'⟩ := at_part ho2 hp2 0 (by omega) (cn 4607182418800017408) 0 (by decide +kernel) (by decide +kernel);
       obtain ⟨c3, s3, q3, p3, p3'⟩ := at_part ho2 hp2 1 (by omega) (cn 4611686018427387904) 0 (by decide +kernel) (by decide +kernel);
       have hkb := ((Kp.refl w1).alloc (.cells #[.complex .f64 4613937818241073152 0, .complex .f64 13830554455654793216 0] 27)).trans hk2; clear ho2 hp2 hk2)
    | (go_at_call 20; (refine (Slide_any _ 2 _ _ _ _ _ _ _ (by omega) (by omega) (Has.lit _ L31 (by decide))).mono ?_); rintro e w3 ⟨g3, x3, rfl, ho3, hp3, hk3⟩;
       obtain ⟨c4, s4, q4, p4, p4'⟩ := at_part ho3 hp3 0 (by omega) (cn 4619567317775286272) 0 (by decide +kernel) (by decide +kernel);
       obtain ⟨c5, s5, q5, p5, p5'⟩ := at_part ho3 hp3 1 (by omega) (cn 13837309855095848960) 0 (by decide +kernel) (by decide +kernel);
       have hkc := ((Kp.refl w2).alloc (.cells #[.complex .f64 4613937818241073152 0, .complex .f64 13830554455654793216 0] 27)).trans hk3; clear ho3 hp3 hk3)
    | (go_at_call 22; (refine (At_any _ 3 _ 0 2 2 1 _ _ (by omega) (by omega) (by omega) (by omega) (by omega) (by omega) (by omega) (Has.lit _ L579 (by decide))).mono ?_); rintro e w4 ⟨c6, s6, rfl, hc6, hs6, hk4⟩;
       have p6 : (ord (cn c6) (cn 13839561654909534208) == some .eq) = true := (by rw [hc6]; decide +kernel);
       have p6' : (ord (cn s6) 0 == some .eq) = true := (by rw [hs6]; decide +kernel);
       have hkd := ((Kp.refl w3).alloc (.cells #[.complex .f64 4617315517961601024 0, .complex .f64 4619567317775286272 0, .complex .f64 4621256167635550208 0] 27)).trans hk4;
       have r0 := (hkb.trans (hkc.trans hkd)).later q0; have r1 := (hkb.trans (hkc.trans hkd)).later q1; have r2 := (hkc.trans hkd).later q2; have r3 := (hkc.trans hkd).later q3; have r4 := hkd.later q4; have r5 := hkd.later q5;
       have hkz := hka.trans (hkb.trans (hkc.trans hkd)); clear hc6 hs6 hk4 hka hkb hkc hkd q0 q1 q2 q3 q4 q5))
  go_ret
  exact ⟨rfl, hkz⟩
end Go.Proofs.YtmadbdecbkmjkaaDoor
