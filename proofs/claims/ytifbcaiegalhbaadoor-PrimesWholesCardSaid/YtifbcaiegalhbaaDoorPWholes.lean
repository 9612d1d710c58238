/-
  The walk of PrimesWholes: every Factors, Prime, Divisors, Root and Gcd is the reference's.
-/
import Derived.Test.YtifbcaiegalhbaaDoorPModulo
import Derived.Test.YtifbcaiegalhbaaDoorPGone
import Derived.Test.YtifbcaiegalhbaaDoorPRDiv
namespace Go.Proofs.YtifbcaiegalhbaaDoor
open Go Go.RowKit Go.Fl Go.Pr

theorem root_pair (n : Int) (E : Nat → Addr) (w : World) :
    ∃ (g : Int) (ev : Value) (k : Int), Hid (∀ w', Errs w' E → Calls Tryd.prog 25 #[.int .i64 n] w' fun e w'' => e = .returned (.tuple #[.int .i64 g, ev]) ∧ Kp w' w'') ∧
      Hid (∀ w', Calls Tryd.prog 30 #[.int .i64 n] w' fun e w'' => e = .returned (.tuple #[.int .i64 g, .int .i64 k]) ∧ Kp w' w'') ∧
      Hid (∀ w', Errs w' E → Calls Tryd.prog 16 #[ev] w' fun e w'' => e = .returned (.int .i64 k) ∧ Kp w' w'') := by
  cases hb : primeB n with
  | false =>
    exact ⟨0, errR (E 10), 11, Lib.hid fun w' h => (Root_no n _ w' h.root hb).mono fun e w'' ⟨h1, h2⟩ => ⟨h1, h2.kp⟩, Lib.hid fun w' => rRoot_no n w' hb, Lib.hid fun w' h => Num_root E w' h⟩
  | true =>
    have hb' := hb
    unfold primeB at hb'
    rw [decide_eq_true_iff] at hb'
    obtain ⟨p, rfl⟩ := Int.eq_ofNat_of_zero_le (show 0 ≤ n by omega)
    have hp : Pri p := hb'.2.2
    have hpb : p ≤ 4294967296 := by omega
    obtain ⟨e, w1, fr, ⟨g, _, HR, _⟩, _⟩ := Root_yes p w hp hpb []
    refine ⟨g, .nilIface, 0, Lib.hid fun w' _ => (Root_yes p w' hp hpb).mono ?_, Lib.hid fun w' => (rRoot_yes p w' hp hpb).mono ?_, Lib.hid fun w' _ => Num_nilk w'⟩
    · rintro e w'' ⟨g', rfl, HR', _, hk⟩
      rw [IsRoot.uniq HR'.out HR.out]
      exact ⟨rfl, hk⟩
    · rintro e w'' ⟨g', rfl, HR', _, hk⟩
      rw [IsRoot.uniq HR'.out HR.out]
      exact ⟨rfl, hk⟩
set_option maxRecDepth 100000 in
set_option maxHeartbeats 4000000 in
theorem walk_PrimesWholes (n : Int) (wn : (Lit.int .i64 n).wf = true) (m : Int) (wm : (Lit.int .i64 m).wf = true) (E : Nat → Addr) (w : World) (hE : Errs w E) :
    Calls Tryd.prog 8 #[.int .i64 n, .int .i64 m] w fun e w' => e = .returned (.bool true) ∧ Kp w w' := by
  have n1 := wf_i wn
  have m1 := wf_i wm
  obtain ⟨g, ev, k, C1, C2, C3⟩ := root_pair n E w
  obtain ⟨d, hd⟩ : ∃ d, gcdI n m = d := ⟨_, rfl⟩
  have C4 : Hid (∀ w', Calls Tryd.prog 21 #[.int .i64 n, .int .i64 m] w' fun e w'' => e = .returned (.int .i64 d) ∧ Kp w' w'') := Lib.hid fun w' => (Gcd_any n m w' (by omega) (by omega) (by omega) (by omega)).mono fun e w'' ⟨h1, h2⟩ => ⟨by rw [h1, hd], h2.kp⟩
  have C5 : Hid (∀ w', Calls Tryd.prog 31 #[.int .i64 n, .int .i64 m] w' fun e w'' => e = .returned (.int .i64 d) ∧ Kp w' w'') := Lib.hid fun w' => (rGcd_any n m w' (by omega) (by omega) (by omega) (by omega)).mono fun e w'' ⟨h1, h2⟩ => ⟨by rw [h1, hd], h2.kp⟩
  obtain ⟨L, hL⟩ : ∃ L, factsI n = L := ⟨_, rfl⟩
  obtain ⟨D, hD⟩ : ∃ D, divsI n = D := ⟨_, rfl⟩
  obtain ⟨pb, hpb⟩ : ∃ pb, primeB n = pb := ⟨_, rfl⟩
  have C6 : Hid (∀ w', Calls Tryd.prog 26 #[.int .i64 n] w' fun e w'' => ∃ v, e = .returned v ∧ IL w'' w'.heap.size v L ∧ Kp w' w'') := Lib.hid fun w' => by rw [← hL]; exact Factors_any n w'
  have C7 : Hid (∀ w', Calls Tryd.prog 33 #[.int .i64 n] w' fun e w'' => ∃ v, e = .returned v ∧ IL w'' w'.heap.size v L ∧ Kp w' w'') := Lib.hid fun w' => by rw [← hL]; exact rFactors_any n w'
  have C8 : Hid (∀ w', Calls Tryd.prog 29 #[.int .i64 n] w' fun e w'' => ∃ v, e = .returned (.tuple #[v, .bool true]) ∧ IL w'' w'.heap.size v D ∧ Kp w' w'') := Lib.hid fun w' => by rw [← hD]; exact gone_any n w'
  have C9 : Hid (∀ w', Calls Tryd.prog 35 #[.int .i64 n] w' fun e w'' => ∃ v, e = .returned v ∧ IL w'' w'.heap.size v D ∧ Kp w' w'') := Lib.hid fun w' => by rw [← hD]; exact rDivisors_any n w'
  have C10 : Hid (∀ w', Calls Tryd.prog 24 #[.int .i64 n] w' fun e w'' => e = .returned (.bool pb) ∧ w' = w'') := Lib.hid fun w' => by rw [← hpb]; exact Prime_any n w'
  have C11 : Hid (∀ w', Calls Tryd.prog 34 #[.int .i64 n] w' fun e w'' => e = .returned (.bool pb) ∧ Kp w' w'') := Lib.hid fun w' => by rw [← hpb]; exact rPrime_any n w'
  have hLl : Hid (L.length ≤ 1099511627776) := Lib.hid (by
    rw [← hL]; unfold factsI
    split
    · simp
    · have := facts_length n.toNat; omega)
  have hDl : Hid (D.length ≤ 1099511627776) := Lib.hid (by rw [← hD]; have := divsI_le n; omega)
  have hE' := Lib.hid hE
  clear hE hL hD hpb hd wn wm n1 m1
  go_enter Tryd.func8, Tryd.ntmps8
  go_wp2_with (first
    | (go_at_call 11; (with_reducible refine (fixed_any E _ hE'.out.ers).mono ?_); rintro e w0 ⟨rfl, hk0⟩)
    | (go_at_call 29; (with_reducible refine (C8.out _).mono ?_); rintro e w1 ⟨v1, rfl, hI1, hk1⟩; have hk01 := hk0.trans hk1; obtain ⟨o1, c1, rfl⟩ := hI1.form; have HI1 := Lib.hid hI1; clear hI1 hk0 hk1)
    | (go_at_call 25; (with_reducible refine (C1.out _ (hE'.out.kp hk01)).mono ?_); rintro e w2 ⟨rfl, hk2⟩; have hk02 := hk01.trans hk2)
    | (go_at_call 30; (with_reducible refine (C2.out _).mono ?_); rintro e w3 ⟨rfl, hk3⟩; have hk03 := hk02.trans hk3)
    | (go_at_call 16; (with_reducible refine (C3.out _ (hE'.out.kp hk03)).mono ?_); rintro e w4 ⟨rfl, hk4⟩; have hk04 := hk03.trans hk4)
    | (go_at_call 21; (with_reducible refine (C4.out _).mono ?_); rintro e w5 ⟨rfl, hk5⟩; have hk05 := hk04.trans hk5)
    | (go_at_call 31; (with_reducible refine (C5.out _).mono ?_); rintro e w6 ⟨rfl, hk6⟩; have hk06 := hk05.trans hk6)
    | (go_at_call 26; (with_reducible refine (C6.out _).mono ?_); rintro e w7 ⟨v7, rfl, hI7, hk7⟩; have hk07 := hk06.trans hk7; obtain ⟨o7, c7, rfl⟩ := hI7.form; have HI7 := Lib.hid hI7; clear hI7)
    | (go_at_call 33; (with_reducible refine (C7.out _).mono ?_); rintro e w8 ⟨v8, rfl, hI8, hk8⟩; have hk08 := hk07.trans hk8; obtain ⟨o8, c8, rfl⟩ := hI8.form; have HI8 := Lib.hid hI8; clear hI8)
    | (go_at_call 32; (with_reducible refine (SameInts_yes _ _ _ _ L _ hLl.out (HI7.out.kp hk8) HI8.out).mono ?_); rintro e w9 ⟨rfl, hk9⟩; have hk09 := hk08.trans hk9.kp; clear HI7)
    | (go_at_call 24; (with_reducible refine (C10.out _).mono ?_); rintro e w10 ⟨rfl, rfl⟩)
    | (go_at_call 34; (with_reducible refine (C11.out _).mono ?_); rintro e w11 ⟨rfl, hk11⟩; have hk011 := hk09.trans hk11)
    | (go_at_call 35; (with_reducible refine (C9.out _).mono ?_); rintro e w12 ⟨v12, rfl, hI12, hk12⟩; have hk012 := hk011.trans hk12; obtain ⟨o12, c12, rfl⟩ := hI12.form; have HI12 := Lib.hid hI12; clear hI12)
    | (go_at_call 32; (with_reducible refine (SameInts_yes _ _ _ _ D _ hDl.out ((((((((((HI1.out.kp hk2).kp hk3).kp hk4).kp hk5).kp hk6).kp hk7).kp hk8).kp hk9.kp).kp hk11).kp hk12) HI12.out).mono ?_); rintro e w13 ⟨rfl, hk13⟩; have hk013 := hk012.trans hk13.kp))
  go_ret
  exact ⟨rfl, hk013⟩
end Go.Proofs.YtifbcaiegalhbaaDoor
