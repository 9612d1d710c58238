/-
  The walks of timbreref01.Bits and Same: floats are alike where their 'cn' are one.
-/
import Derived.Test.YtmadbdecbkmjkaaDoorExt
namespace Go.Proofs.YtmadbdecbkmjkaaDoor
open Go Go.RowKit Go.Fl

theorem isN_mod (b : Nat) : isN b = decide ((9218868437227405312 : Int) < (b : Int) % 9223372036854775808) := by
  have hs := signWeight_double
  have hi := infRung_double
  have hb := binade_double
  unfold isN Ieee.Format.read
  simp only [hs]
  have hm : ((b : Int) % 9223372036854775808) = ((b % 9223372036854775808 : Nat) : Int) := by omega
  rw [hm]
  generalize b % 9223372036854775808 = m
  rw [hi, hb]
  split
  · simp [Ieee.Datum.isNaN]; omega
  · split
    · simp [Ieee.Datum.isNaN]; omega
    · split
      · simp [Ieee.Datum.isNaN]; omega
      · simp [Ieee.Datum.isNaN]; omega

set_option maxHeartbeats 400000 in
theorem Bits_any (b : Nat) (w : World) :
    Calls Tryd.prog 53 #[.float .f64 b] w fun e w' => e = .returned (.int .u64 (cn b)) ∧ w = w' := by
  by_cases h : isN b = true
  · have ht : decide ((9218868437227405312 : Int) < (b : Int) % 9223372036854775808) = true := by rw [← isN_mod]; exact h
    go_enter Tryd.func53, Tryd.ntmps53
    go_wp2_with fail
    go_ret
    exact ⟨by rw [cn_of b h]; rfl, rfl⟩
  · have ht : decide ((9218868437227405312 : Int) < (b : Int) % 9223372036854775808) = false := by rw [← isN_mod]; simpa using h
    go_enter Tryd.func53, Tryd.ntmps53
    go_wp2_with fail
    go_ret
    exact ⟨by rw [cn_of_not b (by simpa using h)]; rfl, rfl⟩

set_option maxHeartbeats 400000 in
theorem Same_yes (a b : Nat) (w : World) (h : cn a = cn b) :
    Calls Tryd.prog 43 #[.float .f64 a, .float .f64 b] w fun e w' => e = .returned (.bool true) ∧ w = w' := by
  have hb : ((cn a : Int) == (cn b : Int)) = true := by rw [h]; simp
  have H := Lib.hid h
  clear h
  go_enter Tryd.func43, Tryd.ntmps43
  go_wp2_with (go_at_call 53; (with_reducible refine (Bits_any _ _).mono ?_); rintro e w1 ⟨rfl, rfl⟩)
  go_ret
  exact ⟨rfl, rfl⟩
set_option maxHeartbeats 400000 in
theorem Same_no (a b : Nat) (w : World) (h : cn a ≠ cn b) :
    Calls Tryd.prog 43 #[.float .f64 a, .float .f64 b] w fun e w' => e = .returned (.bool false) ∧ w = w' := by
  have hb : ((cn a : Int) == (cn b : Int)) = false := by simp; omega
  have H := Lib.hid h
  clear h
  go_enter Tryd.func43, Tryd.ntmps43
  go_wp2_with (go_at_call 53; (with_reducible refine (Bits_any _ _).mono ?_); rintro e w1 ⟨rfl, rfl⟩)
  go_ret
  exact ⟨rfl, rfl⟩
end Go.Proofs.YtmadbdecbkmjkaaDoor
