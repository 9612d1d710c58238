/-
  The walk of DirectAt: At of every list and place.
-/
import Derived.Test.YtmadbdecbkmjkaaDoorDOne
import Derived.Test.YtmadbdecbkmjkaaDoorOpen
import Derived.Deep.DeepCutAuto
namespace Go.Proofs.YtmadbdecbkmjkaaDoor
open Go Go.RowKit Go.Fl Go.Roots

theorem PartC.one {f : Nat → Nat × Nat} {xs : List Value} {n : Nat} (h : PartC f xs n) (hl : xs.length = n) : ∀ u ∈ xs, u.oneCell' = true := by
  intro u hu
  obtain ⟨i, hi, rfl⟩ := List.getElem_of_mem hu
  obtain ⟨c, s, e, _⟩ := h i (by omega)
  rw [List.getElem?_eq_getElem hi] at e
  rw [Option.some.inj e]
  rfl
/-- A slice of places that came in: four numbers each. -/
structure Plc where
  at' : Int
  jump : Int
  n : Int
  k : Int
def Pl (w : World) (o : Option Addr) (n : Nat) (ps : Nat → Plc) : Prop := 0 < n → ∃ g off, o = some ⟨g, off, none⟩ ∧ g < w.heap.size ∧ ∀ j, j < n →
  w.cell? ⟨g, off + j * 4, none⟩ = some (.int .i64 (ps j).at') ∧ w.cell? ⟨g, off + j * 4 + 1, none⟩ = some (.int .i64 (ps j).jump) ∧ w.cell? ⟨g, off + j * 4 + 2, none⟩ = some (.int .i64 (ps j).n) ∧ w.cell? ⟨g, off + j * 4 + 3, none⟩ = some (.int .i64 (ps j).k)
theorem box4 (w : World) (a b c d : Int) (t : TypeId) : (w.alloc (.cells #[.int .i64 a, .int .i64 b, .int .i64 c, .int .i64 d] t)).cell? ⟨w.heap.size, 0, none⟩ = some (.int .i64 a) ∧ (w.alloc (.cells #[.int .i64 a, .int .i64 b, .int .i64 c, .int .i64 d] t)).cell? ⟨w.heap.size, 1, none⟩ = some (.int .i64 b) ∧
    (w.alloc (.cells #[.int .i64 a, .int .i64 b, .int .i64 c, .int .i64 d] t)).cell? ⟨w.heap.size, 2, none⟩ = some (.int .i64 c) ∧ (w.alloc (.cells #[.int .i64 a, .int .i64 b, .int .i64 c, .int .i64 d] t)).cell? ⟨w.heap.size, 3, none⟩ = some (.int .i64 d) := by
  have h := World.ownsRow_lit (base := w.heap.size) (e := t) (size := 1) w #[.int .i64 a, .int .i64 b, .int .i64 c, .int .i64 d] 4 (Nat.le_refl _) (by decide) rfl
  exact ⟨(h.cellAt 0 (by decide)), (h.cellAt 1 (by decide)), (h.cellAt 2 (by decide)), (h.cellAt 3 (by decide))⟩
set_option maxRecDepth 100000 in
set_option maxHeartbeats 4000000 in
theorem directAt_any (ob : Option Addr) (nb cb : Nat) (bs : Nat → Int) (op : Option Addr) (np cp : Nat) (ps : Nat → Plc) (E : Nat → Addr) (w : World) (hE : Errs w E) (hn : nb ≤ 17592186043904) (hb : Wd w ob nb bs) (hnp : np ≤ 17592186044416) (hp : Pl w op np ps)
    (hj : ∀ j, j < np → (ps j).jump ≤ 9223372036854775807) :
    Calls Tryd.prog 5 #[.slice ob nb cb, .slice op np cp] w fun e w' => e = .returned (.bool true) ∧ Kp w w' := by
  have HE := Lib.hid hE
  have HB := Lib.hid hb
  have HP := Lib.hid hp
  have HJ := Lib.hid hj
  clear hE hb hp hj
  go_enter Tryd.func5, Tryd.ntmps5
  go_wp2_with (first
    | (go_at_call 8; (with_reducible refine (dlives_any _).mono ?_); rintro e w0 ⟨rfl, hk0⟩)
    | (go_at_call 12; (with_reducible refine (listOf_any ob nb cb bs _ (by omega) (HB.out.kp hk0)).mono ?_); rintro e w1 ⟨v, rfl, ⟨xs, hox, hpx⟩, ⟨g, c, rfl⟩, hk1⟩)
    | (go_at_call 14; (refine (room_any g (nb / 2) c _ xs _ (by omega) hox (hpx.one (by have := hox.1; omega))).mono ?_); rintro e w2 ⟨G, C, rfl, hoG, hk2⟩))
  obtain ⟨m, hm⟩ : ∃ m, nb / 2 = m := ⟨_, rfl⟩
  have hmb : m ≤ 8796093021952 := by omega
  rw [hm] at hox hpx hoG ⊢
  have hk02 := (hk0.trans hk1).trans hk2
  have hG : Has w2 G m (lst bs) := Has.own hoG (by omega) fun j hj => by
    obtain ⟨c', s', e1, e2⟩ := hpx j hj
    exact ⟨c', s', by rw [List.getElem?_append_left (by have := hox.1; omega)]; exact e1, e2⟩
  have hgH : Has w2 g m (lst bs) := (Has.own hox (Nat.le_refl _) hpx).kp hk2
  have HOG := Lib.hid hoG
  have HPX := Lib.hid hpx
  have HGG := Lib.hid (And.intro hG hgH)
  have HE2 := Lib.hid (HE.out.kp hk02)
  clear hoG hpx hG hgH hox hk0 hk1 hk2 hm HB HE
  go_loopw [9, 10, 11, 12, 13, 25] (fun _ _ _ _ _ y wr => ∃ j : Nat, j ≤ np ∧ y = .int .i64 j ∧ Kp w2 wr) (fun _ _ _ _ _ y _ => np - (intOf y).toNat)
  case atStart => exact ⟨0, by omega, rfl, Kp.refl _⟩
  case round =>
    obtain ⟨j, hj, rfl, hkr⟩ := hrel
    by_cases hlt : j < np
    · obtain ⟨gp, off, rfl, hgp, hcells⟩ := HP.out (by omega)
      obtain ⟨q1, q2, q3, q4⟩ := hcells j hlt
      have q1 := (hk02.trans hkr).later q1
      have q2 := (hk02.trans hkr).later q2
      have q3 := (hk02.trans hkr).later q3
      have q4 := (hk02.trans hkr).later q4
      obtain ⟨ev, q, _, _, U, V, A1, A2, A3⟩ := at_pair (some ⟨G, 0, none⟩) (some ⟨g, 0, none⟩) m C c (ps j).at' (ps j).jump (ps j).n (ps j).k (lst bs) E w2 (by omega) (Rd.of_has HGG.out.1) (Rd.of_has HGG.out.2) HE2.out (HJ.out j hlt)
      generalize (ps j).at' = p1 at *
      generalize (ps j).jump = p2 at *
      generalize (ps j).n = p3 at *
      generalize (ps j).k = p4 at *
      clear hcells
      have hkb : Kp w2 (wr.alloc (.cells #[.int .i64 p1, .int .i64 p2, .int .i64 p3, .int .i64 p4] 50)) := hkr.alloc _
      go_wp2_with (first
        | (go_at_call 22; (with_reducible refine (A1.out _ hkb).mono ?_); rintro e w3 ⟨c1, s1, rfl, hc1, hs1, hk3⟩; have b0 := hk3.later (box4 wr p1 p2 p3 p4 _).1; have b1 := hk3.later (box4 wr p1 p2 p3 p4 _).2.1; have b2 := hk3.later (box4 wr p1 p2 p3 p4 _).2.2.1; have b3 := hk3.later (box4 wr p1 p2 p3 p4 _).2.2.2; have hk4 := hkb.trans hk3; clear hkb hk3)
        | (go_at_call 23; (with_reducible refine (A2.out _ hk4).mono ?_); rintro e w4 ⟨c2, s2, rfl, hc2, hs2, hk5⟩; have hk6 := hk4.trans hk5; have HEQ := Lib.hid (And.intro (hc1.trans hc2.symm) (hs1.trans hs2.symm)); clear hc1 hc2 hs1 hs2 hk4 hk5 b0 b1 b2 b3)
        | (go_at_call 16; (with_reducible refine (A3.out _ hk6).mono ?_); rintro e w5 ⟨rfl, hk7⟩; have hk8 := hk6.trans hk7; clear hk6 hk7)
        | (go_at_call 24; (with_reducible refine (dsame_yes _ _ _ _ _ HEQ.out.1 HEQ.out.2).mono ?_); rintro e w6 ⟨rfl, rfl⟩)
        | (go_at_call 18; (refine (kept_any G C m c _ _ xs (lst bs) _ (by omega) (hk8.owns HOG.out) HPX.out (Rd.of_has (HGG.out.2.kp hk8))).mono ?_); rintro e w7 ⟨rfl, hk9⟩; have hk10 := hk8.trans hk9; clear hk8 hk9))
      go_roundw
      case rel => exact ⟨j + 1, by omega, by go_num, hk10⟩
      case measure => simp [intOf]; omega
    · obtain rfl : j = np := by omega
      go_wp2_with fail
      go_ret
      exact ⟨rfl, hk02.trans hkr⟩
theorem wf_i {a : Int} (h : (Lit.int .i64 a).wf = true) : -9223372036854775808 ≤ a ∧ a ≤ 9223372036854775807 := by
  have := h
  simp [Lit.wf, IntKind.min, IntKind.max, IntKind.signed, IntKind.bits] at this
  omega
theorem walk_DirectAt (w : World) (o : Option Addr) (n c : Nat) (bs : Nat → Int) (hb : NumS .u64 w o n bs) (_ : ∀ j, j < n → (Lit.int .u64 (bs j)).wf = true) (hz : n * 8 ≤ 140737488351232)
    (o1 : Option Addr) (n1 c1 : Nat) (ps : Nat → Nat → Int) (hp : StrS .i64 4 w o1 n1 ps) (hw : ∀ j, j < n1 → ∀ i, i < 4 → (Lit.int .i64 (ps j i)).wf = true) (hz1 : n1 * 32 ≤ 140737488351232) (E : Nat → Addr) (hE : Errs w E) :
    Calls Tryd.prog 5 #[.slice o n c, .slice o1 n1 c1] w fun e w' => e = .returned (.bool true) ∧ Kp w w' := by
  refine directAt_any o n c bs o1 n1 c1 (fun j => ⟨ps j 0, ps j 1, ps j 2, ps j 3⟩) E w hE (by omega) hb (by omega) (fun h0 => ?_) (fun j hj => (wf_i (hw j hj 1 (by omega))).2)
  obtain ⟨g, off, e, hg, hc⟩ := hp h0
  refine ⟨g, off, e, hg, fun j hj => ⟨?_, ?_, ?_, ?_⟩⟩
  · exact hc j hj 0 (by omega)
  · exact hc j hj 1 (by omega)
  · exact hc j hj 2 (by omega)
  · exact hc j hj 3 (by omega)
end Go.Proofs.YtmadbdecbkmjkaaDoor
