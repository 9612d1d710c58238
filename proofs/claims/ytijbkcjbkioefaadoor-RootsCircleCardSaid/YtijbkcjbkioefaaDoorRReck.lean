/-
  The walk of RootsReckoned.
-/
import Derived.Test.YtijbkcjbkioefaaDoorRLives
import Derived.Test.YtijbkcjbkioefaaDoorRRef2
import Derived.Test.YtijbkcjbkioefaaDoorErr
namespace Go.Proofs.YtijbkcjbkioefaaDoor
open Go Go.RowKit Go.Fl Go.Roots

set_option maxRecDepth 100000 in
set_option maxHeartbeats 1000000 in
theorem reck_good (r n k : Int) (E : Nat → Addr) (w : World) (hE : Errs w E) (h1 : 1 ≤ n) (h2 : n ≤ 4194304) (h3 : 0 ≤ r) (h4 : r ≤ n / 8) :
    Calls Tryd.prog 5 #[.int .i64 r, .int .i64 n, .int .i64 k] w fun e w' => e = .returned (.bool true) ∧ Kp w w' := by
  go_enter Tryd.func5, Tryd.ntmps5
  go_wp2_with (first
    | (go_at_call 10; (with_reducible refine (lives_any _).mono ?_); rintro e w2 ⟨rfl, hk2⟩; have hE := hE.kp hk2)
    | (go_at_call 13; (with_reducible refine (Num_nil _).mono ?_); rintro e w2 ⟨rfl, rfl⟩)
    | (go_at_call 13; (with_reducible refine (Num_len E _ hE).mono ?_); rintro e w2 ⟨rfl, hk2⟩; have hE := hE.kp hk2)
    | (go_at_call 13; (with_reducible refine (Num_range E _ hE).mono ?_); rintro e w2 ⟨rfl, hk2⟩; have hE := hE.kp hk2)
    | (go_at_call 18; (with_reducible refine (Eighth_any _ _ _ (by omega) (by omega) (by omega) (by omega)).mono ?_); rintro e w2 ⟨c, s, rfl, hc, hs, hk2⟩; have hE := hE.kp hk2)
    | (go_at_call 19; (with_reducible refine (rEighthN_any _ _ _ (by omega) (by omega) (by omega) (by omega)).mono ?_); rintro e w2 ⟨c, s, rfl, hc, hs, hk2⟩; have hE := hE.kp hk2)
    | (go_at_call 21; (with_reducible refine (Cos_any _ _ _ (by omega) (by omega)).mono ?_); rintro e w2 ⟨c, rfl, hc, hk2⟩; have hE := hE.kp hk2)
    | (go_at_call 22; (with_reducible refine (rCos_any _ _ _ (by omega) (by omega)).mono ?_); rintro e w2 ⟨c, rfl, hc, hk2⟩; have hE := hE.kp hk2)
    | (go_at_call 23; (with_reducible refine (Sin_any _ _ _ (by omega) (by omega)).mono ?_); rintro e w2 ⟨c, rfl, hc, hk2⟩; have hE := hE.kp hk2)
    | (go_at_call 24; (with_reducible refine (rSin_any _ _ _ (by omega) (by omega)).mono ?_); rintro e w2 ⟨c, rfl, hc, hk2⟩; have hE := hE.kp hk2)
    | (go_at_call 16; (with_reducible refine (Root_any _ _ _ (by omega) (by omega)).mono ?_); rintro e w2 ⟨c, s, rfl, hc, hs, hk2⟩; have hE := hE.kp hk2)
    | (go_at_call 25; (with_reducible refine (rRoot_any _ _ _ (by omega) (by omega)).mono ?_); rintro e w2 ⟨c, s, rfl, hc, hs, hk2⟩; have hE := hE.kp hk2)
    | (go_at_call 20; (with_reducible refine (Same_yes _ _ _ (by simp only [*])).mono ?_); rintro e w2 ⟨rfl, rfl⟩)
    | (go_at_call 14; (with_reducible refine (same_yes _ _ _ _ _ (by simp only [*]) (by simp only [*])).mono ?_); rintro e w2 ⟨rfl, rfl⟩))
  go_ret
  exact ⟨rfl, by repeat (first | exact Kp.refl _ | refine Kp.drewN ?_ _ | refine Kp.trans ?_ (by assumption))⟩

set_option maxRecDepth 100000 in
set_option maxHeartbeats 1000000 in
theorem reck_len (r n k : Int) (E : Nat → Addr) (w : World) (hE : Errs w E) (hb : n < 1 ∨ 16777216 < n) (hn : n < 1 ∨ 4194304 < n) :
    Calls Tryd.prog 5 #[.int .i64 r, .int .i64 n, .int .i64 k] w fun e w' => e = .returned (.bool true) ∧ Kp w w' := by
  have HB := Lib.hid hb
  clear hb
  have HN := Lib.hid hn
  clear hn
  go_enter Tryd.func5, Tryd.ntmps5
  go_wp2_with (first
    | (go_at_call 10; (with_reducible refine (lives_any _).mono ?_); rintro e w2 ⟨rfl, hk2⟩; have hE := hE.kp hk2)
    | (go_at_call 13; (with_reducible refine (Num_nil _).mono ?_); rintro e w2 ⟨rfl, rfl⟩)
    | (go_at_call 13; (with_reducible refine (Num_len E _ hE).mono ?_); rintro e w2 ⟨rfl, hk2⟩; have hE := hE.kp hk2)
    | (go_at_call 13; (with_reducible refine (Num_range E _ hE).mono ?_); rintro e w2 ⟨rfl, hk2⟩; have hE := hE.kp hk2)
    | (go_at_call 18; (with_reducible refine (Eighth_len _ _ (E 6) _ hE.len HB.out).mono ?_); rintro e w2 ⟨rfl, hk2⟩; have hE := hE.kp hk2)
    | (go_at_call 19; (with_reducible refine (rEighth_len _ _ _ HB.out).mono ?_); rintro e w2 ⟨rfl, hk2⟩; have hE := hE.kp hk2)
    | (go_at_call 21; (with_reducible refine (Cos_bad _ _ (E 6) _ hE.len HN.out).mono ?_); rintro e w2 ⟨rfl, hk2⟩; have hE := hE.kp hk2)
    | (go_at_call 22; (with_reducible refine (rCos_bad _ _ _ HN.out).mono ?_); rintro e w2 ⟨rfl, hk2⟩; have hE := hE.kp hk2)
    | (go_at_call 23; (with_reducible refine (Sin_bad _ _ (E 6) _ hE.len HN.out).mono ?_); rintro e w2 ⟨rfl, hk2⟩; have hE := hE.kp hk2)
    | (go_at_call 24; (with_reducible refine (rSin_bad _ _ _ HN.out).mono ?_); rintro e w2 ⟨rfl, hk2⟩; have hE := hE.kp hk2)
    | (go_at_call 16; (with_reducible refine (Root_bad _ _ (E 6) _ hE.len HN.out).mono ?_); rintro e w2 ⟨rfl, hk2⟩; have hE := hE.kp hk2)
    | (go_at_call 20; (with_reducible refine (Same_yes _ _ _ (by simp only [*])).mono ?_); rintro e w2 ⟨rfl, rfl⟩)
    | (go_at_call 14; (with_reducible refine (same_yes _ _ _ _ _ (by simp only [*]) (by simp only [*])).mono ?_); rintro e w2 ⟨rfl, rfl⟩))
  go_ret
  exact ⟨rfl, by repeat (first | exact Kp.refl _ | refine Kp.drewN ?_ _ | refine Kp.trans ?_ (by assumption))⟩

set_option maxRecDepth 100000 in
set_option maxHeartbeats 1000000 in
theorem reck_range_good (r n k : Int) (E : Nat → Addr) (w : World) (hE : Errs w E) (h1 : 1 ≤ n) (h2 : n ≤ 4194304) (hr : r < 0 ∨ n / 8 < r) :
    Calls Tryd.prog 5 #[.int .i64 r, .int .i64 n, .int .i64 k] w fun e w' => e = .returned (.bool true) ∧ Kp w w' := by
  have HR := Lib.hid hr
  clear hr
  go_enter Tryd.func5, Tryd.ntmps5
  go_wp2_with (first
    | (go_at_call 10; (with_reducible refine (lives_any _).mono ?_); rintro e w2 ⟨rfl, hk2⟩; have hE := hE.kp hk2)
    | (go_at_call 13; (with_reducible refine (Num_nil _).mono ?_); rintro e w2 ⟨rfl, rfl⟩)
    | (go_at_call 13; (with_reducible refine (Num_len E _ hE).mono ?_); rintro e w2 ⟨rfl, hk2⟩; have hE := hE.kp hk2)
    | (go_at_call 13; (with_reducible refine (Num_range E _ hE).mono ?_); rintro e w2 ⟨rfl, hk2⟩; have hE := hE.kp hk2)
    | (go_at_call 18; (with_reducible refine (Eighth_range _ _ (E 4) _ hE.range (by omega) (by omega) HR.out).mono ?_); rintro e w2 ⟨rfl, hk2⟩; have hE := hE.kp hk2)
    | (go_at_call 19; (with_reducible refine (rEighth_range _ _ _ (by omega) (by omega) HR.out).mono ?_); rintro e w2 ⟨rfl, hk2⟩; have hE := hE.kp hk2)
    | (go_at_call 21; (with_reducible refine (Cos_any _ _ _ (by omega) (by omega)).mono ?_); rintro e w2 ⟨c, rfl, hc, hk2⟩; have hE := hE.kp hk2)
    | (go_at_call 22; (with_reducible refine (rCos_any _ _ _ (by omega) (by omega)).mono ?_); rintro e w2 ⟨c, rfl, hc, hk2⟩; have hE := hE.kp hk2)
    | (go_at_call 23; (with_reducible refine (Sin_any _ _ _ (by omega) (by omega)).mono ?_); rintro e w2 ⟨c, rfl, hc, hk2⟩; have hE := hE.kp hk2)
    | (go_at_call 24; (with_reducible refine (rSin_any _ _ _ (by omega) (by omega)).mono ?_); rintro e w2 ⟨c, rfl, hc, hk2⟩; have hE := hE.kp hk2)
    | (go_at_call 16; (with_reducible refine (Root_any _ _ _ (by omega) (by omega)).mono ?_); rintro e w2 ⟨c, s, rfl, hc, hs, hk2⟩; have hE := hE.kp hk2)
    | (go_at_call 25; (with_reducible refine (rRoot_any _ _ _ (by omega) (by omega)).mono ?_); rintro e w2 ⟨c, s, rfl, hc, hs, hk2⟩; have hE := hE.kp hk2)
    | (go_at_call 20; (with_reducible refine (Same_yes _ _ _ (by simp only [*])).mono ?_); rintro e w2 ⟨rfl, rfl⟩)
    | (go_at_call 14; (with_reducible refine (same_yes _ _ _ _ _ (by simp only [*]) (by simp only [*])).mono ?_); rintro e w2 ⟨rfl, rfl⟩))
  go_ret
  exact ⟨rfl, by repeat (first | exact Kp.refl _ | refine Kp.drewN ?_ _ | refine Kp.trans ?_ (by assumption))⟩

set_option maxRecDepth 100000 in
set_option maxHeartbeats 1000000 in
theorem reck_range_bad (r n k : Int) (E : Nat → Addr) (w : World) (hE : Errs w E) (h1 : 4194304 < n) (h2 : n ≤ 16777216) (hr : r < 0 ∨ n / 8 < r) (hn : n < 1 ∨ 4194304 < n) :
    Calls Tryd.prog 5 #[.int .i64 r, .int .i64 n, .int .i64 k] w fun e w' => e = .returned (.bool true) ∧ Kp w w' := by
  have HR := Lib.hid hr
  clear hr
  have HN := Lib.hid hn
  clear hn
  go_enter Tryd.func5, Tryd.ntmps5
  go_wp2_with (first
    | (go_at_call 10; (with_reducible refine (lives_any _).mono ?_); rintro e w2 ⟨rfl, hk2⟩; have hE := hE.kp hk2)
    | (go_at_call 13; (with_reducible refine (Num_nil _).mono ?_); rintro e w2 ⟨rfl, rfl⟩)
    | (go_at_call 13; (with_reducible refine (Num_len E _ hE).mono ?_); rintro e w2 ⟨rfl, hk2⟩; have hE := hE.kp hk2)
    | (go_at_call 13; (with_reducible refine (Num_range E _ hE).mono ?_); rintro e w2 ⟨rfl, hk2⟩; have hE := hE.kp hk2)
    | (go_at_call 18; (with_reducible refine (Eighth_range _ _ (E 4) _ hE.range (by omega) (by omega) HR.out).mono ?_); rintro e w2 ⟨rfl, hk2⟩; have hE := hE.kp hk2)
    | (go_at_call 19; (with_reducible refine (rEighth_range _ _ _ (by omega) (by omega) HR.out).mono ?_); rintro e w2 ⟨rfl, hk2⟩; have hE := hE.kp hk2)
    | (go_at_call 21; (with_reducible refine (Cos_bad _ _ (E 6) _ hE.len HN.out).mono ?_); rintro e w2 ⟨rfl, hk2⟩; have hE := hE.kp hk2)
    | (go_at_call 22; (with_reducible refine (rCos_bad _ _ _ HN.out).mono ?_); rintro e w2 ⟨rfl, hk2⟩; have hE := hE.kp hk2)
    | (go_at_call 23; (with_reducible refine (Sin_bad _ _ (E 6) _ hE.len HN.out).mono ?_); rintro e w2 ⟨rfl, hk2⟩; have hE := hE.kp hk2)
    | (go_at_call 24; (with_reducible refine (rSin_bad _ _ _ HN.out).mono ?_); rintro e w2 ⟨rfl, hk2⟩; have hE := hE.kp hk2)
    | (go_at_call 16; (with_reducible refine (Root_bad _ _ (E 6) _ hE.len HN.out).mono ?_); rintro e w2 ⟨rfl, hk2⟩; have hE := hE.kp hk2)
    | (go_at_call 20; (with_reducible refine (Same_yes _ _ _ (by simp only [*])).mono ?_); rintro e w2 ⟨rfl, rfl⟩)
    | (go_at_call 14; (with_reducible refine (same_yes _ _ _ _ _ (by simp only [*]) (by simp only [*])).mono ?_); rintro e w2 ⟨rfl, rfl⟩))
  go_ret
  exact ⟨rfl, by repeat (first | exact Kp.refl _ | refine Kp.drewN ?_ _ | refine Kp.trans ?_ (by assumption))⟩

set_option maxRecDepth 100000 in
set_option maxHeartbeats 1000000 in
theorem reck_ok_bad (r n k : Int) (E : Nat → Addr) (w : World) (hE : Errs w E) (h1 : 4194304 < n) (h2 : n ≤ 16777216) (h3 : 0 ≤ r) (h4 : r ≤ n / 8) (hn : n < 1 ∨ 4194304 < n) :
    Calls Tryd.prog 5 #[.int .i64 r, .int .i64 n, .int .i64 k] w fun e w' => e = .returned (.bool true) ∧ Kp w w' := by
  have HN := Lib.hid hn
  clear hn
  go_enter Tryd.func5, Tryd.ntmps5
  go_wp2_with (first
    | (go_at_call 10; (with_reducible refine (lives_any _).mono ?_); rintro e w2 ⟨rfl, hk2⟩; have hE := hE.kp hk2)
    | (go_at_call 13; (with_reducible refine (Num_nil _).mono ?_); rintro e w2 ⟨rfl, rfl⟩)
    | (go_at_call 13; (with_reducible refine (Num_len E _ hE).mono ?_); rintro e w2 ⟨rfl, hk2⟩; have hE := hE.kp hk2)
    | (go_at_call 13; (with_reducible refine (Num_range E _ hE).mono ?_); rintro e w2 ⟨rfl, hk2⟩; have hE := hE.kp hk2)
    | (go_at_call 18; (with_reducible refine (Eighth_any _ _ _ (by omega) (by omega) (by omega) (by omega)).mono ?_); rintro e w2 ⟨c, s, rfl, hc, hs, hk2⟩; have hE := hE.kp hk2)
    | (go_at_call 19; (with_reducible refine (rEighthN_any _ _ _ (by omega) (by omega) (by omega) (by omega)).mono ?_); rintro e w2 ⟨c, s, rfl, hc, hs, hk2⟩; have hE := hE.kp hk2)
    | (go_at_call 21; (with_reducible refine (Cos_bad _ _ (E 6) _ hE.len HN.out).mono ?_); rintro e w2 ⟨rfl, hk2⟩; have hE := hE.kp hk2)
    | (go_at_call 22; (with_reducible refine (rCos_bad _ _ _ HN.out).mono ?_); rintro e w2 ⟨rfl, hk2⟩; have hE := hE.kp hk2)
    | (go_at_call 23; (with_reducible refine (Sin_bad _ _ (E 6) _ hE.len HN.out).mono ?_); rintro e w2 ⟨rfl, hk2⟩; have hE := hE.kp hk2)
    | (go_at_call 24; (with_reducible refine (rSin_bad _ _ _ HN.out).mono ?_); rintro e w2 ⟨rfl, hk2⟩; have hE := hE.kp hk2)
    | (go_at_call 16; (with_reducible refine (Root_bad _ _ (E 6) _ hE.len HN.out).mono ?_); rintro e w2 ⟨rfl, hk2⟩; have hE := hE.kp hk2)
    | (go_at_call 20; (with_reducible refine (Same_yes _ _ _ (by simp only [*])).mono ?_); rintro e w2 ⟨rfl, rfl⟩)
    | (go_at_call 14; (with_reducible refine (same_yes _ _ _ _ _ (by simp only [*]) (by simp only [*])).mono ?_); rintro e w2 ⟨rfl, rfl⟩))
  go_ret
  exact ⟨rfl, by repeat (first | exact Kp.refl _ | refine Kp.drewN ?_ _ | refine Kp.trans ?_ (by assumption))⟩

theorem reckoned_walk (r n k : Int) (E : Nat → Addr) (w : World) (hE : Errs w E) :
    Calls Tryd.prog 5 #[.int .i64 r, .int .i64 n, .int .i64 k] w fun e w' => e = .returned (.bool true) ∧ Kp w w' := by
  by_cases hb : n < 1 ∨ 16777216 < n
  · exact reck_len r n k E w hE hb (by omega)
  · by_cases hn : n ≤ 4194304
    · by_cases hr : r < 0 ∨ n / 8 < r
      · exact reck_range_good r n k E w hE (by omega) hn hr
      · exact reck_good r n k E w hE (by omega) hn (by omega) (by omega)
    · by_cases hr : r < 0 ∨ n / 8 < r
      · exact reck_range_bad r n k E w hE (by omega) (by omega) hr (by omega)
      · exact reck_ok_bad r n k E w hE (by omega) (by omega) (by omega) (by omega) (by omega)
theorem walk_RootsReckoned (r : Int) (_ : (Lit.int .i64 r).wf = true) (n : Int) (_ : (Lit.int .i64 n).wf = true) (k : Int) (_ : (Lit.int .i64 k).wf = true) (E : Nat → Addr) (w : World) (hE : Errs w E) :
    Calls Tryd.prog 5 #[.int .i64 r, .int .i64 n, .int .i64 k] w fun e w' => e = .returned (.bool true) ∧ Kp w w' := reckoned_walk r n k E w hE
end Go.Proofs.YtijbkcjbkioefaaDoor
