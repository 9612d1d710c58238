/-
  The walk of WindowMakes.
-/
import Derived.Test.YtmndkbebcjpkcaaDoorWFixed
namespace Go.Proofs.YtmndkbebcjpkcaaDoor
open Go Go.RowKit Go.Fl Go.Roots

theorem same_list (ga gb n ca cb base : Nat) (f : Nat → Nat) (xa xb : List Value) (w : World) (hn : n ≤ 1099511627776)
    (ha : w.ownsRow base 34 1 (.slice (some ⟨ga, 0, none⟩) n ca) n xa) (hb : w.ownsRow base 34 1 (.slice (some ⟨gb, 0, none⟩) n cb) n xb) (pa : PartF f xa n) (pb : PartF f xb n) :
    Calls Tryd.prog 9 #[.slice (some ⟨ga, 0, none⟩) n ca, .slice (some ⟨gb, 0, none⟩) n cb] w fun e w' => e = .returned (.bool true) ∧ Kp w w' := by
  have HA := Lib.hid ha
  have HB := Lib.hid hb
  clear ha hb
  go_enter Tryd.func9, Tryd.ntmps9
  go_wp2_with (go_at_call 20; (with_reducible refine (SameList_yes _ _ _ _ _ base f xa xb _ hn HA.out HB.out pa pb).mono ?_); rintro e w1 ⟨rfl, hk⟩)
  go_ret
  exact ⟨rfl, hk⟩
theorem same_nil (w : World) :
    Calls Tryd.prog 9 #[.slice none 0 0, .slice none 0 0] w fun e w' => e = .returned (.bool true) ∧ Kp w w' := by
  go_enter Tryd.func9, Tryd.ntmps9
  go_wp2_with (go_at_call 20; (with_reducible refine (SameList_nil _).mono ?_); rintro e w1 ⟨rfl, hk⟩)
  go_ret
  exact ⟨rfl, hk⟩
theorem Num_mode (E : Nat → Addr) (w : World) (hE : Errs w E) :
    Calls Tryd.prog 8 #[.iface 63 (.pointer (some (E 16)))] w fun e w' => e = .returned (.int .i64 17) ∧ Kp w w' := Num_err E 16 (by decide) w hE
theorem Errs.mode {w : World} {E : Nat → Addr} (hE : Errs w E) : errAt w 0 (E 16) := hE.cell 16 (by decide)

set_option maxRecDepth 100000 in
set_option maxHeartbeats 1000000 in
theorem walk_WindowMakes (kind : Int) (_ : (Lit.int .i64 kind).wf = true) (n : Int) (_ : (Lit.int .i64 n).wf = true) (E : Nat → Addr) (w : World) (hE : Errs w E) :
    Calls Tryd.prog 3 #[.int .i64 kind, .int .i64 n] w fun e w' => e = .returned (.bool true) ∧ Kp w w' := by
  by_cases hk : kind < 0 ∨ 3 < kind
  · have HK := Lib.hid hk
    clear hk
    go_enter Tryd.func3, Tryd.ntmps3
    go_wp2_with (first
      | (go_at_call 5; (with_reducible refine (fixed_any _).mono ?_); rintro e w2 ⟨rfl, hk2⟩; have hE := hE.kp hk2)
      | (go_at_call 6; (with_reducible refine (Window_mode _ _ (E 16) _ hE.mode HK.out).mono ?_); rintro e w2 ⟨rfl, hk2⟩; have hE := hE.kp hk2)
      | (go_at_call 7; (with_reducible refine (rWindow_mode _ _ _ HK.out).mono ?_); rintro e w2 ⟨rfl, hk2⟩; have hE := hE.kp hk2)
      | (go_at_call 8; (with_reducible refine (Num_mode E _ hE).mono ?_); rintro e w2 ⟨rfl, hk2⟩; have hE := hE.kp hk2)
      | (go_at_call 9; (with_reducible refine (same_nil _).mono ?_); rintro e w2 ⟨rfl, hk2⟩)
      | (go_at_call 10; (with_reducible refine (Name_any _ _).mono ?_); rintro e w1 ⟨rfl, rfl⟩)
      | (go_at_call 11; (with_reducible refine (rName_any _ _).mono ?_); rintro e w2 ⟨rfl, hk2⟩))
    all_goals go_ret
    all_goals exact ⟨by simp, by (repeat (first | exact Kp.refl _ | refine Kp.drewN ?_ _ | refine Kp.trans ?_ (by assumption)))⟩
  have k0 : 0 ≤ kind := by omega
  have k3 : kind ≤ 3 := by omega
  clear hk
  by_cases hn : n < 1 ∨ 4096 < n
  · have HN := Lib.hid hn
    clear hn
    go_enter Tryd.func3, Tryd.ntmps3
    go_wp2_with (first
      | (go_at_call 5; (with_reducible refine (fixed_any _).mono ?_); rintro e w2 ⟨rfl, hk2⟩; have hE := hE.kp hk2)
      | (go_at_call 6; (with_reducible refine (Window_len _ _ (E 6) _ hE.len k0 k3 HN.out).mono ?_); rintro e w2 ⟨rfl, hk2⟩; have hE := hE.kp hk2)
      | (go_at_call 7; (with_reducible refine (rWindow_len _ _ _ k0 k3 HN.out).mono ?_); rintro e w2 ⟨rfl, hk2⟩; have hE := hE.kp hk2)
      | (go_at_call 8; (with_reducible refine (Num_len E _ hE).mono ?_); rintro e w2 ⟨rfl, hk2⟩; have hE := hE.kp hk2)
      | (go_at_call 9; (with_reducible refine (same_nil _).mono ?_); rintro e w2 ⟨rfl, hk2⟩)
      | (go_at_call 10; (with_reducible refine (Name_any _ _).mono ?_); rintro e w1 ⟨rfl, rfl⟩)
      | (go_at_call 11; (with_reducible refine (rName_any _ _).mono ?_); rintro e w2 ⟨rfl, hk2⟩))
    all_goals go_ret
    all_goals exact ⟨by simp, by (repeat (first | exact Kp.refl _ | refine Kp.drewN ?_ _ | refine Kp.trans ?_ (by assumption)))⟩
  obtain ⟨m, rfl⟩ := Int.eq_ofNat_of_zero_le (show 0 ≤ n by omega)
  have m1 : 1 ≤ m := by omega
  have m2 : m ≤ 4096 := by omega
  clear hn
  go_enter Tryd.func3, Tryd.ntmps3
  go_wp2_with (go_at_call 5; (with_reducible refine (fixed_any _).mono ?_); rintro e w2 ⟨rfl, hk2⟩)
  refine (Window_any kind m _ k0 k3 m1 m2).mono ?_
  rintro e w3 ⟨ga, xa, rfl, ha, pa, hk3⟩
  go_wp2_with fail
  refine (rWindow_any kind m _ k0 k3 m1 m2).mono ?_
  rintro e w4 ⟨v, xb, rfl, hb, pb, hk4⟩
  obtain ⟨gb, cb, rfl⟩ := owns_form hb (by omega)
  have HA := Lib.hid (owns_mono (hk4.owns ha) hk2.size)
  have HB := Lib.hid (owns_mono hb (hk2.trans hk3).size)
  clear ha hb
  go_wp2_with (first
      | (go_at_call 8; (with_reducible refine (Num_nil _).mono ?_); rintro e w2 ⟨rfl, rfl⟩)
      | (go_at_call 9; (refine (same_list _ _ m _ _ w.heap.size _ _ _ _ (by omega) HA.out HB.out pa pb).mono ?_); rintro e w2 ⟨rfl, hk2⟩)
      | (go_at_call 10; (with_reducible refine (Name_any _ _).mono ?_); rintro e w1 ⟨rfl, rfl⟩)
      | (go_at_call 11; (with_reducible refine (rName_any _ _).mono ?_); rintro e w2 ⟨rfl, hk2⟩))
  go_ret
  exact ⟨by simp, by (repeat (first | exact Kp.refl _ | refine Kp.drewN ?_ _ | refine Kp.trans ?_ (by assumption)))⟩
end Go.Proofs.YtmndkbebcjpkcaaDoor
