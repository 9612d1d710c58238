/-
  The walks of the statements' own 'same' and 'lives'.
-/
import Derived.Test.YtijbkcjbkioefaaDoorRAll
import Derived.Test.YtijbkcjbkioefaaDoorSame
namespace Go.Proofs.YtijbkcjbkioefaaDoor
open Go Go.RowKit Go.Fl Go.Roots

set_option maxRecDepth 100000 in
set_option maxHeartbeats 400000 in
theorem same_yes (a b c d : Nat) (w : World) (h1 : cn a = cn c) (h2 : cn b = cn d) :
    Calls Tryd.prog 14 #[.complex .f64 a b, .complex .f64 c d] w fun e w' => e = .returned (.bool true) ∧ w = w' := by
  have H1 := Lib.hid h1
  have H2 := Lib.hid h2
  clear h1 h2
  go_enter Tryd.func14, Tryd.ntmps14
  go_wp2_with (first
    | (go_at_call 20; (with_reducible refine (Same_yes _ _ _ H1.out).mono ?_); rintro e w1 ⟨rfl, rfl⟩)
    | (go_at_call 20; (with_reducible refine (Same_yes _ _ _ H2.out).mono ?_); rintro e w1 ⟨rfl, rfl⟩))
  go_ret
  exact ⟨rfl, rfl⟩

set_option maxRecDepth 100000 in
set_option maxHeartbeats 800000 in
theorem lives_any (w : World) :
    Calls Tryd.prog 10 #[] w fun e w' => e = .returned (.bool true) ∧ Kp w w' := by
  have e0 := cn_0
  have t1 : (ord (root 4 1).1 0 == some .eq) = true := by decide +kernel
  have t2 : (ord (root 4 1).2 (cn 13830554455654793216) == some .eq) = true := by decide +kernel
  have t3 : (ord (root 8 1).1 (cn 4604544271217802189) == some .eq) = true := by decide +kernel
  have t4 : (ord (eighth 1 8).1 (eighth 1 8).2 == some .eq) = true := by decide +kernel
  have t5 : (ord (root 4 2).1 (cn 13830554455654793216) == some .eq) = true := by decide +kernel
  have t6 : (ord (root 4 2).2 0 == some .eq) = true := by decide +kernel
  go_enter Tryd.func10, Tryd.ntmps10
  go_wp2_with (first
    | (go_at_call 16; (with_reducible refine (Root_any _ _ _ (by omega) (by omega)).mono ?_); rintro e w2 ⟨c, s, rfl, hc, hs, hk2⟩)
    | (go_at_call 18; (with_reducible refine (Eighth_any _ _ _ (by omega) (by omega) (by omega) (by omega)).mono ?_); rintro e w2 ⟨c, s, rfl, hc, hs, hk2⟩)
    | (go_at_call 11; refine (All_any 4 _ (by omega) (by omega)).mono ?_; rintro e w2 ⟨g, xs, rfl, hown, ⟨_, hCL⟩, hk2⟩; obtain ⟨c2, s2, hx, hc2, hs2⟩ := hCL 2 (by omega); have hcell := hown.cellAt 2 (by omega); rw [hx] at hcell; clear hCL hown hx))
  go_ret
  exact ⟨rfl, by repeat (first | exact Kp.refl _ | refine Kp.drewN ?_ _ | refine Kp.trans ?_ (by assumption))⟩
end Go.Proofs.YtijbkcjbkioefaaDoor
