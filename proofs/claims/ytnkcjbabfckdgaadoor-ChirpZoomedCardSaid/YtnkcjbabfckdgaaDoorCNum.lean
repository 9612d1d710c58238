/-
  The walk of ChirpNumbers.
-/
import Derived.Test.YtnkcjbabfckdgaaDoorCLives
namespace Go.Proofs.YtnkcjbabfckdgaaDoor
open Go Go.RowKit Go.Fl Go.Roots

theorem Num_nilc (w : World) : Calls Tryd.prog 11 #[.nilIface] w fun e w' => e = .returned (.int .i64 0) ∧ Kp w w' :=
  (Num_nil w).mono fun e w' ⟨h, hw⟩ => ⟨h, hw ▸ Kp.refl w⟩
/-- The answers of At and Size, both ways, at any numbers. -/
theorem num_pair (n j : Int) (E : Nat → Addr) (w : World) (hE : Errs w E) : ∃ (ev : Value) (q : Int) (U V : Nat),
    Hid (∀ w', Kp w w' → Calls Tryd.prog 9 #[.int .i64 n, .int .i64 j] w' fun e w'' => ∃ c s, e = .returned (.tuple #[.complex .f64 c s, ev]) ∧ cn c = U ∧ cn s = V ∧ Kp w' w'') ∧
    Hid (∀ w', Kp w w' → Calls Tryd.prog 10 #[.int .i64 n, .int .i64 j] w' fun e w'' => ∃ c s, e = .returned (.tuple #[.complex .f64 c s, .int .i64 q]) ∧ cn c = U ∧ cn s = V ∧ Kp w' w'') ∧
    Hid (∀ w', Kp w w' → Calls Tryd.prog 11 #[ev] w' fun e w'' => e = .returned (.int .i64 q) ∧ Kp w' w'') := by
  by_cases h : n < 1 ∨ 16384 < n
  · refine ⟨.iface 78 (.pointer (some (E 6))), 7, cn 0, cn 0, Lib.hid fun w' hk => ?_, Lib.hid fun w' hk => ?_, Lib.hid fun w' hk => Num_len E w' (hE.kp hk)⟩
    · exact (CAt_bad n j (E 6) w' (hE.kp hk).len h).mono fun e w'' ⟨he, hk⟩ => ⟨0, 0, he, rfl, rfl, hk⟩
    · exact (rChirp_bad n j w' h).mono fun e w'' ⟨he, hk⟩ => ⟨0, 0, he, rfl, rfl, hk⟩
  · exact ⟨.nilIface, 0, (chirp n j).1, (chirp n j).2, Lib.hid fun w' hk => CAt_any n j w' (by omega) (by omega), Lib.hid fun w' hk => rChirp_any n j w' (by omega) (by omega), Lib.hid fun w' _ => Num_nilc w'⟩
theorem size_pair (n : Int) (E : Nat → Addr) (w : World) (hE : Errs w E) : ∃ (ev : Value) (q : Int) (x : Nat),
    Hid (∀ w', Kp w w' → Calls Tryd.prog 15 #[.int .i64 n] w' fun e w'' => e = .returned (.tuple #[.int .i64 x, ev]) ∧ Kp w' w'') ∧
    Hid (∀ w', Kp w w' → Calls Tryd.prog 16 #[.int .i64 n] w' fun e w'' => e = .returned (.tuple #[.int .i64 x, .int .i64 q]) ∧ Kp w' w'') ∧
    Hid (∀ w', Kp w w' → Calls Tryd.prog 11 #[ev] w' fun e w'' => e = .returned (.int .i64 q) ∧ Kp w' w'') := by
  by_cases h : n < 1 ∨ 8192 < n
  · refine ⟨.iface 78 (.pointer (some (E 6))), 7, 0, Lib.hid fun w' hk => CSize_bad n (E 6) w' (hE.kp hk).len h, Lib.hid fun w' hk => rSize_bad n w' h, Lib.hid fun w' hk => Num_len E w' (hE.kp hk)⟩
  · obtain ⟨m, rfl⟩ := Int.eq_ofNat_of_zero_le (show 0 ≤ n by omega)
    obtain ⟨K, g1, g2⟩ := pow2_near (2 * m - 1) (by omega)
    have hx : IsTwo (2 * m - 1) (2 ^ K) := ⟨g1, g2, K, rfl⟩
    refine ⟨.nilIface, 0, 2 ^ K, Lib.hid fun w' hk => ?_, Lib.hid fun w' hk => (rSize_any m _ w' (by omega) (by omega) hx).mono fun e w'' ⟨he, hw⟩ => ⟨he, hw ▸ Kp.refl w'⟩, Lib.hid fun w' _ => Num_nilc w'⟩
    refine (CSize_any m w' (by omega) (by omega)).mono ?_
    rintro e w1 ⟨x, rfl, hx', rfl⟩
    rw [two_uniq hx'.out.1 hx]
    exact ⟨rfl, Kp.refl _⟩
set_option maxRecDepth 100000 in
set_option maxHeartbeats 2000000 in
theorem walk_ChirpNumbers (n : Int) (_ : (Lit.int .i64 n).wf = true) (j : Int) (_ : (Lit.int .i64 j).wf = true) (E : Nat → Addr) (w : World) (hE : Errs w E) :
    Calls Tryd.prog 3 #[.int .i64 n, .int .i64 j] w fun e w' => e = .returned (.bool true) ∧ Kp w w' := by
  obtain ⟨e1, q1, U, V, A1, A2, A3⟩ := num_pair n j E w hE
  obtain ⟨e2, q2, x, B1, B2, B3⟩ := size_pair n E w hE
  have HL : Hid (∃ L : Int, (∀ w, Calls Tryd.prog 13 #[.int .i64 n] w fun e w' => e = .returned (.int .i64 L) ∧ w = w') ∧ (∀ w, Calls Tryd.prog 14 #[.int .i64 n] w fun e w' => e = .returned (.int .i64 L) ∧ w = w')) := Lib.hid ⟨_, fun w => CLeast_any n w, fun w => rLeast_any n w⟩
  obtain ⟨L, L1, L2⟩ := HL.out
  have H1 := Lib.hid L1
  have H2 := Lib.hid L2
  clear L1 L2 HL hE
  go_enter Tryd.func3, Tryd.ntmps3
  go_wp2_with (first
    | (go_at_call 8; (refine (clives_any _).mono ?_); rintro e w0 ⟨rfl, hk0⟩)
    | (go_at_call 9; (with_reducible refine (A1.out _ hk0).mono ?_); rintro e w1 ⟨c1, s1, rfl, hc1, hs1, hkx⟩; have hk1 := hk0.trans hkx; clear hk0 hkx)
    | (go_at_call 10; (with_reducible refine (A2.out _ hk1).mono ?_); rintro e w2 ⟨c2, s2, rfl, hc2, hs2, hkx⟩; have hk2 := hk1.trans hkx; have HEQ := Lib.hid (And.intro (hc1.trans hc2.symm) (hs1.trans hs2.symm)); clear hc1 hc2 hs1 hs2 hk1 hkx)
    | (go_at_call 11; (with_reducible refine (A3.out _ hk2).mono ?_); rintro e w3 ⟨rfl, hkx⟩; have hk3 := hk2.trans hkx; clear hk2 hkx)
    | (go_at_call 12; (with_reducible refine (dsame_yes _ _ _ _ _ HEQ.out.1 HEQ.out.2).mono ?_); rintro e w6 ⟨rfl, rfl⟩)
    | (go_at_call 13; (with_reducible refine (H1.out _).mono ?_); rintro e w6 ⟨rfl, rfl⟩)
    | (go_at_call 14; (with_reducible refine (H2.out _).mono ?_); rintro e w6 ⟨rfl, rfl⟩)
    | (go_at_call 15; (with_reducible refine (B1.out _ hk3).mono ?_); rintro e w1 ⟨rfl, hkx⟩; have hk4 := hk3.trans hkx; clear hk3 hkx)
    | (go_at_call 16; (with_reducible refine (B2.out _ hk4).mono ?_); rintro e w1 ⟨rfl, hkx⟩; have hk5 := hk4.trans hkx; clear hk4 hkx)
    | (go_at_call 11; (with_reducible refine (B3.out _ hk5).mono ?_); rintro e w3 ⟨rfl, hkx⟩; have hk6 := hk5.trans hkx; clear hk5 hkx))
  go_ret
  exact ⟨rfl, hk6⟩
end Go.Proofs.YtnkcjbabfckdgaaDoor
