/-
  The walk of ChirpZooms.
-/
import Derived.Test.YtnkcjbabfckdgaaDoorCLists
import Derived.Test.YtnkcjbabfckdgaaDoorOpen
namespace Go.Proofs.YtnkcjbabfckdgaaDoor
open Go Go.RowKit Go.Fl Go.Roots

theorem PartC.one {f : Nat → Nat × Nat} {xs : List Value} {n : Nat} (h : PartC f xs n) (hl : xs.length = n) : ∀ u ∈ xs, u.oneCell' = true := by
  intro u hu
  obtain ⟨i, hi, rfl⟩ := List.getElem_of_mem hu
  obtain ⟨c, s, e, _⟩ := h i (by omega)
  rw [List.getElem?_eq_getElem hi] at e
  rw [Option.some.inj e]
  rfl
theorem owns_cap {w : World} {base : Nat} {e : TypeId} {g n cap : Nat} {xs : List Value} (h : w.ownsRow base e 1 (.slice (some ⟨g, 0, none⟩) n cap) n xs) : n ≤ cap ∧ cap ≤ maxLen := by
  rcases h.2 with ⟨h2, _⟩ | ⟨g', cap', cur, h2, _, _, h3, h4, _⟩
  · cases h2
  · cases h2; exact ⟨h3, h4⟩
abbrev C77 : Value := .complex .f64 4635118810238550016 0
theorem eq77 : (ord (cn 4635118810238550016) (cn 4635118810238550016) == some .eq) = true := by decide +kernel
/-- Both Zooms, at any numbers. -/
theorem zoom_pair (g G n cg cG : Nat) (m from' count : Int) (f : Nat → Nat × Nat) (E : Nat → Addr) (w : World) (hn : n ≤ 8796093022208) (hE : Errs w E) (hG : Rd w (some ⟨G, 0, none⟩) n f) (hg : Rd w (some ⟨g, 0, none⟩) n f) : ∃ (ev : Value) (q : Int) (N : Nat) (F : Nat → Nat × Nat), N ≤ 8796093022208 ∧
    Hid (∀ w', Kp w w' → Calls Tryd.prog 24 #[.slice (some ⟨G, 0, none⟩) n cG, .int .i64 m, .int .i64 from', .int .i64 count] w' fun e w'' => ∃ o c, e = .returned (.tuple #[.slice o N c, ev]) ∧ Rd w'' o N F ∧ Kp w' w'') ∧
    Hid (∀ w', Kp w w' → Calls Tryd.prog 25 #[.slice (some ⟨g, 0, none⟩) n cg, .int .i64 m, .int .i64 from', .int .i64 count] w' fun e w'' => ∃ o c, e = .returned (.tuple #[.slice o N c, .int .i64 q]) ∧ Rd w'' o N F ∧ Kp w' w'') ∧
    Hid (∀ w', Kp w w' → Calls Tryd.prog 11 #[ev] w' fun e w'' => e = .returned (.int .i64 q) ∧ Kp w' w'') := by
  by_cases h : n = 0 ∨ m < 1 ∨ 4194304 < m ∨ count < 0 ∨ (1048576 : Int) / (n : Int) < count
  · refine ⟨.iface 78 (.pointer (some (E 6))), 7, 0, f, by omega, Lib.hid fun w' hk => ?_, Lib.hid fun w' hk => ?_, Lib.hid fun w' hk => Num_len E w' (hE.kp hk)⟩
    · exact (CZoom_bad _ n cG m from' count (E 6) w' (hE.kp hk).len hn h).mono fun e w'' ⟨he, hk⟩ => ⟨none, 0, he, fun h => absurd h (by omega), hk⟩
    · exact (rZoom_bad _ n cg m from' count w' hn h).mono fun e w'' ⟨he, hk⟩ => ⟨none, 0, he, fun h => absurd h (by omega), hk⟩
  · obtain ⟨M, rfl⟩ := Int.eq_ofNat_of_zero_le (show 0 ≤ m by omega)
    obtain ⟨C, rfl⟩ := Int.eq_ofNat_of_zero_le (show 0 ≤ count by omega)
    have hc : (C : Int) ≤ 1048576 / (n : Int) := by omega
    have hcn := zoom_len (by omega) hc
    have hC : C ≤ 1048576 := by
      have := Nat.mul_le_mul (Nat.le_refl C) (show 1 ≤ n by omega)
      omega
    obtain ⟨G', e1, hG'⟩ := hG (by omega)
    obtain ⟨g', e2, hg'⟩ := hg (by omega)
    cases e1
    cases e2
    refine ⟨.nilIface, 0, C, zoom f n M from', by omega, Lib.hid fun w' hk => ?_, Lib.hid fun w' hk => ?_, Lib.hid fun w' _ => Num_nilc w'⟩
    · refine (CZoom_any G n cG M from' C f w' (by omega) hn (by omega) (by omega) hc (hG'.kp hk)).mono ?_
      rintro e w'' ⟨v, rfl, hco, hk2⟩
      obtain ⟨o, c, rfl, hr⟩ := hco.rd
      exact ⟨o, c, rfl, hr, hk2⟩
    · refine (rZoom_any g n cg M from' C f w' (by omega) hn (by omega) (by omega) hc (hg'.kp hk)).mono ?_
      rintro e w'' ⟨v, rfl, hco, hk2⟩
      obtain ⟨o, c, rfl, hr⟩ := hco.rd
      exact ⟨o, c, rfl, hr, hk2⟩
set_option maxRecDepth 100000 in
set_option maxHeartbeats 4000000 in
theorem zooms_any (ob : Option Addr) (nb cb : Nat) (bs : Nat → Int) (m from' count : Int) (E : Nat → Addr) (w : World) (hE : Errs w E) (hn : nb ≤ 17592186043904) (hb : Wd w ob nb bs) (n : Nat) (hnn : nb / 2 = n) :
    Calls Tryd.prog 5 #[.slice ob nb cb, .int .i64 m, .int .i64 from', .int .i64 count] w fun e w' => e = .returned (.bool true) ∧ Kp w w' := by
  obtain ⟨i0, hi, hz0, hz1, hz2⟩ := info_parts info_c
  have hnb : n ≤ 8796093021952 := by omega
  have HL : Hid (∀ w', Kp w w' → Calls Tryd.prog 23 #[.slice ob nb cb] w' fun e w'' => ∃ g c xs, e = .returned (.slice (some ⟨g, 0, none⟩) n c) ∧ w''.ownsRow w'.heap.size 23 1 (.slice (some ⟨g, 0, none⟩) n c) n xs ∧ PartC (lst bs) xs n ∧ Kp w' w'') := Lib.hid fun w' hk => by
    refine (listOf_any ob nb cb bs w' (by omega) (hb.kp hk)).mono ?_
    rintro e w1 ⟨v, rfl, ⟨xs, hox, hpx⟩, ⟨g, c, rfl⟩, hk1⟩
    rw [hnn] at hox hpx ⊢
    exact ⟨g, c, xs, rfl, hox, hpx, hk1⟩
  have HE := Lib.hid hE
  clear hb hnn hE
  have e0 := cn_0
  have e7 := eq77
  have z8 := nil_eq
  rcases (show n = 0 ∨ 1 ≤ n by omega) with h0 | h0
  all_goals
    first | ((have dn : decide (0 < n) = false := (by rw [h0]; rfl)); clear h0) | (have dn : decide (0 < n) = true := decide_eq_true h0)
    go_enter Tryd.func5, Tryd.ntmps5
    go_upto_region 6 with (first
      | (go_at_call 8; (refine (clives_any _).mono ?_); rintro e w0 ⟨rfl, hk0⟩)
      | (go_at_call 23; (with_reducible refine (HL.out _ hk0).mono ?_); rintro e w3 ⟨g, c, xs, rfl, hox, hpx, hk1⟩))
  all_goals first | (go_ret; exact ⟨rfl, hk0.trans hk1⟩) | skip
  all_goals
    have hxl := hox.1
    have hone := hpx.one (by omega)
    have hk03 := hk0.trans hk1
    have hown0 := owns_empty w3
    have hka : Kp w3 (w3.alloc (.cells #[] 23)) := (Kp.refl w3).alloc _
    go_wp2_with (at_builtin; refine wpList_append_own _ rfl (.tmp 36) (.tmp 37) 38 rfl w3.heap.size 23 i0 (.complex .f64 0 0) 1 16 Tryd.underlying38 hi hz0 hz1 hz2 rfl (by decide) _ _ _ rfl hown0 ⟨g, 0, none⟩ n c xs rfl hxl ?c1 hone ?c3 ?c4 ?c5 ?_)
    case c1 => first | exact (hka.owns hox).cells rfl | exact fun j u h => (by have hl := (List.getElem?_eq_some_iff.1 h).1; rw [(hka.owns hox).cellAt j (by omega)]; exact h)
    case c3 => unfold maxLen; omega
    case c4 => omega
    (try case c5 => simp)
    intro v1 w4 hown1 hg1 _
    have hkb : Kp w3 w4 := hka.grown hg1 (fun j hj => (hown0.lt j hj).1)
    (try simp only [Nat.zero_add, List.nil_append] at hown1)
    clear hg1 hown0 hone
    have hown1 := hown1
    go_wp2_with (at_builtin; refine wpList_append_own _ rfl (.tmp 38) (.tmp 39) 38 rfl w3.heap.size 23 i0 (.complex .f64 0 0) 1 16 Tryd.underlying38 hi hz0 hz1 hz2 rfl (by decide) _ _ _ rfl (hown1.alloc _) ⟨w4.heap.size, 0, none⟩ 1 1 [C77] rfl rfl ?d1 ?d2 ?d3 ?d4 ?d5 ?_)
    case d1 => exact cell_one_new _ _ _
    case d2 => simp [Value.oneCell']
    case d3 => unfold maxLen; omega
    case d4 => omega
    (try case d5 => have := hkb.size; simp; omega)
    intro v2 w5 hown2 hg2 _
    have hkc : Kp w3 w5 := (hkb.alloc _).grown hg2 (fun j hj => (hown1.lt j hj).1)
    obtain ⟨G, C, rfl⟩ := owns_form hown2 (by omega)
    have hC := (owns_cap hown2).1
    have hC2 := (owns_cap hown2).2
    unfold maxLen at hC2
    have hnC : n ≤ C := by omega
    have hlast : w5.cell? ⟨G, n, none⟩ = some C77 := by rw [hown2.cellAt n (by omega), List.getElem?_append_right (by omega), show n - xs.length = 0 by omega]; rfl
    have hG : Rd w5 (some ⟨G, 0, none⟩) n (lst bs) := Rd.of_has (Has.own hown2 (by omega) fun j hj => by
      obtain ⟨c', s', q1, q2⟩ := hpx j hj
      exact ⟨c', s', by rw [List.getElem?_append_left (by omega)]; exact q1, q2⟩)
    have hg : Rd w5 (some ⟨g, 0, none⟩) n (lst bs) := Rd.of_has ((Has.own hox (Nat.le_refl _) hpx).kp hkc)
    have hk05 := hk03.trans hkc
    obtain ⟨ev, q, N, F, hN, A1, A2, A3⟩ := zoom_pair g G n c C m from' count (lst bs) E w5 (by omega) (HE.out.kp hk05) hG hg
    have HGG := Lib.hid (And.intro hG hg)
    have HX := Lib.hid (And.intro hg2 hlast)
    clear hg2 hown1 hown2 hkb hka hk0 hk1 hG hg hlast hox hpx hxl hC
    go_wp2_with (first
      | (go_at_call 24; (with_reducible refine (A1.out _ (Kp.refl _)).mono ?_); rintro e w6 ⟨o1, c1, rfl, hr1, hk6⟩; have HR1 := Lib.hid hr1; clear hr1)
      | (go_at_call 25; (with_reducible refine (A2.out _ hk6).mono ?_); rintro e w7 ⟨o2, c2, rfl, hr2, hkn⟩; have hk7 := hk6.trans hkn; have HR2 := Lib.hid (And.intro (HR1.out.kp hkn) hr2); clear hr2 hkn hk6)
      | (go_at_call 11; (with_reducible refine (A3.out _ hk7).mono ?_); rintro e w8 ⟨rfl, hkn⟩; have hk8 := hk7.trans hkn; have HR3 := Lib.hid (And.intro (HR2.out.1.kp hkn) (HR2.out.2.kp hkn)); clear hkn hk7)
      | (go_at_call 18; (with_reducible refine (dsameList_yes _ _ N _ _ _ _ (by omega) HR3.out.1 HR3.out.2).mono ?_); rintro e w9 ⟨rfl, hkn⟩; have hk9 := hk8.trans hkn; clear hkn hk8)
      | (go_at_call 18; (with_reducible refine (dsameList_yes _ _ n _ _ _ _ (by omega) (HGG.out.1.kp hk9) (HGG.out.2.kp hk9)).mono ?_); rintro e w10 ⟨rfl, hkn⟩; have hk10 := hk9.trans hkn; have hq77 := hk10.later HX.out.2; clear hkn hk9))
    go_ret
    exact ⟨rfl, hk05.trans hk10⟩
theorem walk_ChirpZooms (w : World) (o : Option Addr) (n c : Nat) (bs : Nat → Int) (hb : NumS .u64 w o n bs) (_ : ∀ j, j < n → (Lit.int .u64 (bs j)).wf = true) (hz : n * 8 ≤ 140737488351232)
    (m : Int) (_ : (Lit.int .i64 m).wf = true) (from' : Int) (_ : (Lit.int .i64 from').wf = true) (count : Int) (_ : (Lit.int .i64 count).wf = true) (E : Nat → Addr) (hE : Errs w E) :
    Calls Tryd.prog 5 #[.slice o n c, .int .i64 m, .int .i64 from', .int .i64 count] w fun e w' => e = .returned (.bool true) ∧ Kp w w' :=
  zooms_any o n c bs m from' count E w hE (by omega) hb (n / 2) rfl
end Go.Proofs.YtnkcjbabfckdgaaDoor
