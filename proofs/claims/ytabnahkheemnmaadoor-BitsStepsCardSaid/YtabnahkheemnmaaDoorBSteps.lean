/-
  The walk of BitsSteps.
-/
import Derived.Test.YtabnahkheemnmaaDoorBOrder
import Derived.Test.YtabnahkheemnmaaDoorBStepP
namespace Go.Proofs.YtabnahkheemnmaaDoor
open Go Go.RowKit Go.Fl

theorem bInf_any (w : World) : Calls Tryd.prog 24 #[.int .i64 1] w fun e w' => e = .returned (.float .f64 9218868437227405312) ∧ w = w' := by
  go_enter Tryd.func24, Tryd.ntmps24
  go_wp2_with fail
  go_ret
  exact ⟨rfl, rfl⟩
theorem bNInf_any (w : World) : Calls Tryd.prog 24 #[.int .i64 (-1)] w fun e w' => e = .returned (.float .f64 18442240474082181120) ∧ w = w' := by
  go_enter Tryd.func24, Tryd.ntmps24
  go_wp2_with fail
  go_ret
  exact ⟨rfl, rfl⟩
set_option maxHeartbeats 4000000 in
theorem between_any (F G H : Nat) (w : World) (hF : Num F) (hG : Num G) (hH : Num H) :
    Calls Tryd.prog 25 #[.float .f64 F, .float .f64 G, .float .f64 H] w fun e w' => e = .returned (.bool true) ∧ w = w' := by
  have HC : Hid (∀ a b w, Num a → Num b → Calls Tryd.prog 17 #[.float .f64 a, .float .f64 b] w fun e w' => e = .returned (.int .i64 (cmpB a b)) ∧ w = w') := Lib.hid fun a b w ha hb => bCompare_any a b w ha.1 hb.1
  have HA : Hid (∀ a b w, Num a → Num b → Calls Tryd.prog 12 #[.float .f64 a, .float .f64 b] w fun e w' => e = .returned (.tuple #[.int .u64 (apartB a b), .nilIface]) ∧ w = w') := Lib.hid fun a b w ha hb => bApart_any a b w ha hb
  have a1 := cmp_pos hF hG
  have a2 := cmp_pos hG hF
  have a3 := cmp_pos hF hH
  have a4 := cmp_pos hG hH
  have b1 := apart_bound hF hG
  have b2 := apart_bound hF hH
  have b3 := apart_bound hG hH
  have b4 := apart_bound hG hF
  have b5 := apart_bound hH hF
  have b6 := apart_bound hH hG
  have key : (∃ c1 c2 c3 c4 : Bool, decide (0 < cmpB F G) = c1 ∧ decide (0 < cmpB G F) = c2 ∧ decide (0 < cmpB F H) = c3 ∧ decide (0 < cmpB G H) = c4 ∧
      ((c1 = false ∧ c4 = false ∧ (apartB F G : Int) + (apartB H G : Int) = (apartB F H : Int)) ∨ (c1 = false ∧ c4 = true ∧ c3 = false ∧ (apartB F H : Int) + (apartB G H : Int) = (apartB F G : Int)) ∨
       (c1 = false ∧ c4 = true ∧ c3 = true ∧ (apartB H F : Int) + (apartB G F : Int) = (apartB H G : Int)) ∨ (c1 = true ∧ c3 = false ∧ c2 = false ∧ (apartB G F : Int) + (apartB H F : Int) = (apartB G H : Int)) ∨
       (c1 = true ∧ c3 = true ∧ c4 = false ∧ (apartB G H : Int) + (apartB F H : Int) = (apartB G F : Int)) ∨ (c1 = true ∧ c3 = true ∧ c4 = true ∧ (apartB H G : Int) + (apartB F G : Int) = (apartB H F : Int)))) := by
    refine ⟨_, _, _, _, a1, a2, a3, a4, ?_⟩
    simp only [decide_eq_true_eq, decide_eq_false_iff_not]
    by_cases h1 : pl G < pl F
    · by_cases h2 : pl H < pl F
      · by_cases h3 : pl H < pl G
        · exact .inr (.inr (.inr (.inr (.inr ⟨h1, h2, h3, apart_sum (by omega) (by omega)⟩))))
        · exact .inr (.inr (.inr (.inr (.inl ⟨h1, h2, h3, apart_sum (by omega) (by omega)⟩))))
      · exact .inr (.inr (.inr (.inl ⟨h1, h2, by omega, apart_sum (by omega) (by omega)⟩)))
    · by_cases h3 : pl H < pl G
      · by_cases h2 : pl H < pl F
        · exact .inr (.inr (.inl ⟨h1, h3, h2, apart_sum (by omega) (by omega)⟩))
        · exact .inr (.inl ⟨h1, h3, h2, apart_sum (by omega) (by omega)⟩)
      · exact .inl ⟨h1, h3, apart_sum (by omega) (by omega)⟩
  clear a1 a2 a3 a4
  obtain ⟨c1, c2, c3, c4, d1, d2, d3, d4, hk⟩ := key
  have KF := Lib.hid hF
  have KG := Lib.hid hG
  have KH := Lib.hid hH
  clear hF hG hH
  rcases hk with ⟨rfl, rfl, e⟩ | ⟨rfl, rfl, rfl, e⟩ | ⟨rfl, rfl, rfl, e⟩ | ⟨rfl, rfl, rfl, e⟩ | ⟨rfl, rfl, rfl, e⟩ | ⟨rfl, rfl, rfl, e⟩
  all_goals
    go_enter Tryd.func25, Tryd.ntmps25
    go_wp2_with (first
      | (go_at_call 17; (with_reducible refine (HC.out _ _ _ (by first | exact KF.out | exact KG.out | exact KH.out) (by first | exact KF.out | exact KG.out | exact KH.out)).mono ?_); rintro e w1 ⟨rfl, rfl⟩)
      | (go_at_call 12; (with_reducible refine (HA.out _ _ _ (by first | exact KF.out | exact KG.out | exact KH.out) (by first | exact KF.out | exact KG.out | exact KH.out)).mono ?_); rintro e w1 ⟨rfl, rfl⟩))
    go_ret
    exact ⟨rfl, rfl⟩
set_option maxHeartbeats 1000000 in
theorem steps_nan (A B C : Nat) (n : Int) (w : World) (hA : A < 18446744073709551616) (h : isN A = true) :
    Calls Tryd.prog 5 #[.int .u64 A, .int .u64 B, .int .u64 C, .int .u64 n] w fun e w' => e = .returned (.bool true) ∧ Kp w w' := by
  have hs := self_no h
  have hs' := nself_no h
  have hu : upB A = A := by unfold upB; rw [if_pos (.inl h)]
  have hd : downB A = A := by unfold downB; rw [if_pos (.inl h)]
  have H1 : Hid (∀ w, Calls Tryd.prog 22 #[.float .f64 A] w fun e w' => e = .returned (.float .f64 A) ∧ w = w') := Lib.hid fun w => by have := bUp_any A w hA; rw [hu] at this; exact this
  have H2 : Hid (∀ w, Calls Tryd.prog 23 #[.float .f64 A] w fun e w' => e = .returned (.float .f64 A) ∧ w = w') := Lib.hid fun w => by have := bDown_any A w hA; rw [hd] at this; exact this
  clear hu hd h
  go_enter Tryd.func5, Tryd.ntmps5
  go_wp2_with (first
    | (go_at_call 10; (with_reducible refine (blives_any _).mono ?_); rintro e w0 ⟨rfl, hk0⟩)
    | (go_at_call 11; (with_reducible refine (of_any _ _).mono ?_); rintro e w1 ⟨rfl, rfl⟩)
    | (go_at_call 22; (with_reducible refine (H1.out _).mono ?_); rintro e w1 ⟨rfl, rfl⟩)
    | (go_at_call 23; (with_reducible refine (H2.out _).mono ?_); rintro e w1 ⟨rfl, rfl⟩))
  go_ret
  exact ⟨rfl, hk0⟩
/-- What the two neighbours are, at the line's ends and elsewhere. -/
theorem near_key (A : Nat) (h : Num A) : ∃ (t l : Bool), (ord (cn A) (cn 9218868437227405312) == some .lt) = t ∧ (ord (cn A) (cn 18442240474082181120) == some .gt) = l ∧
    (t = true → downB (upB A) = A ∧ cmpB A (upB A) = -1 ∧ apartB A (upB A) = 1) ∧ (l = true → upB (downB A) = A ∧ cmpB (downB A) A = -1) := by
  refine ⟨_, _, lt_inf h, gt_ninf h, ?_, ?_⟩
  · intro e
    have e := of_decide_eq_true e
    have hb := h.pl_bound
    exact ⟨down_up h e, cmp_lt h h.up (by rw [pl_up h e]; omega), apart_up h e⟩
  · intro e
    have e := of_decide_eq_true e
    exact ⟨up_down h e, cmp_lt h.down h (by rw [pl_down h e]; omega)⟩
set_option maxRecDepth 100000 in
set_option maxHeartbeats 8000000 in
theorem steps_num (A B C n : Nat) (E : Nat → Addr) (w : World) (hE : Errs w E) (hA : Num A) (hB : B < 18446744073709551616) (hC : C < 18446744073709551616) :
    Calls Tryd.prog 5 #[.int .u64 A, .int .u64 B, .int .u64 C, .int .u64 n] w fun e w' => e = .returned (.bool true) ∧ Kp w w' := by
  obtain ⟨N, hN⟩ : ∃ N, n % 64 = N := ⟨_, rfl⟩
  have eN : (n : Int) % 64 = (N : Int) := by omega
  have hNb : N < 64 := by omega
  have HE := Lib.hid hE
  have hs := self_yes hA.2
  have hs' := nself_yes hA.2
  obtain ⟨t, l, ht, hl, kt, kl⟩ := near_key A hA
  have X1 := fun w => bUp_any A w hA.1
  have X2 := fun w => bDown_any A w hA.1
  have X3 := fun w => bApart_any A (upB A) w hA hA.up
  have X4 := fun w => bDown_any (upB A) w hA.up.1
  have X5 := fun w => bCompare_any A (upB A) w hA.1 hA.up.1
  have X6 := fun w => bUp_any (downB A) w hA.down.1
  have X7 := fun w => bCompare_any (downB A) A w hA.down.1 hA.1
  have X8 := fun w => bSame_any A A w
  rw [show decide (cn A = cn A) = true from decide_eq_true rfl] at X8
  have HS : Hid (∀ w, Calls Tryd.prog 15 #[.float .f64 A, .float .f64 A] w fun e w' => e = .returned (.bool true) ∧ w = w') := Lib.hid X8
  have HU : Hid (∀ w, Calls Tryd.prog 22 #[.float .f64 A] w fun e w' => e = .returned (.float .f64 (upB A)) ∧ w = w') := Lib.hid X1
  have HD : Hid (∀ w, Calls Tryd.prog 23 #[.float .f64 A] w fun e w' => e = .returned (.float .f64 (downB A)) ∧ w = w') := Lib.hid X2
  have HT : Hid (t = true → (∀ w, Calls Tryd.prog 12 #[.float .f64 A, .float .f64 (upB A)] w fun e w' => e = .returned (.tuple #[.int .u64 1, .nilIface]) ∧ w = w') ∧
      (∀ w, Calls Tryd.prog 23 #[.float .f64 (upB A)] w fun e w' => e = .returned (.float .f64 A) ∧ w = w') ∧
      (∀ w, Calls Tryd.prog 17 #[.float .f64 A, .float .f64 (upB A)] w fun e w' => e = .returned (.int .i64 (-1)) ∧ w = w')) := Lib.hid fun e => by
    obtain ⟨e1, e2, e3⟩ := kt e
    rw [e3] at X3
    rw [e1] at X4
    rw [e2] at X5
    exact ⟨X3, X4, X5⟩
  have HL : Hid (l = true → (∀ w, Calls Tryd.prog 22 #[.float .f64 (downB A)] w fun e w' => e = .returned (.float .f64 A) ∧ w = w') ∧
      (∀ w, Calls Tryd.prog 17 #[.float .f64 (downB A), .float .f64 A] w fun e w' => e = .returned (.int .i64 (-1)) ∧ w = w')) := Lib.hid fun e => by
    obtain ⟨e1, e2⟩ := kl e
    rw [e1] at X6
    rw [e2] at X7
    exact ⟨X6, X7⟩
  have HI : Hid (∀ k w, Calls Tryd.prog 22 #[.float .f64 (upI A k)] w fun e w' => e = .returned (.float .f64 (upI A (k + 1))) ∧ w = w') := Lib.hid fun k w => bUp_any (upI A k) w (hA.upI k).1
  clear X1 X2 X3 X4 X5 X6 X7 X8 kt kl
  have hfar : Hid (apartB (upI A N) A ≤ N ∧ ((ord (cn (upI A N)) (cn 9218868437227405312) == some .lt) = true → apartB (upI A N) A = N)) := Lib.hid (by
    have h1 := pl_upI hA N
    have h2 := hA.pl_bound
    have h3 := lt_inf (hA.upI N)
    refine ⟨by unfold apartB; omega, fun e => ?_⟩
    rw [h3] at e
    have e := of_decide_eq_true e
    unfold apartB; omega)
  have HF : Hid (∀ w, Calls Tryd.prog 12 #[.float .f64 (upI A N), .float .f64 A] w fun e w' => e = .returned (.tuple #[.int .u64 (apartB (upI A N) A), .nilIface]) ∧ w = w') := Lib.hid fun w => bApart_any _ _ w (hA.upI N) hA
  have HNA := Lib.hid hA
  have key : (isN B = true ∨ (isN B = false ∧ isN C = true)) ∨ (isN B = false ∧ isN C = false) := by
    cases isN B <;> cases isN C <;> simp
  rcases key with hn | ⟨h1, h2⟩
  · have HP : Hid (∀ w', Kp w w' → Calls Tryd.prog 12 #[.float .f64 B, .float .f64 C] w' fun e w'' => e = .returned (.tuple #[.int .u64 0, .iface 68 (.pointer (some (E 12)))]) ∧ Kp w' w'') := Lib.hid fun w' hk => bApart_nan B C (E 12) w' hB hC (HE.out.kp hk).number (by rcases hn with h | ⟨_, h⟩; exact .inl h; exact .inr h)
    have hx : (ord (cn B) (cn B) != some .eq) = true ∨ ((ord (cn B) (cn B) != some .eq) = false ∧ (ord (cn C) (cn C) != some .eq) = true) := by
      rcases hn with h | ⟨h, h'⟩
      · exact .inl (nself_no h)
      · exact .inr ⟨nself_yes h, nself_no h'⟩
    clear hn hE hA hfar
    cases t <;> cases l
    all_goals
      rcases hx with x1 | ⟨x1, x2⟩
    all_goals
      go_enter Tryd.func5, Tryd.ntmps5
      go_wp2_with (first
        | (go_at_call 10; (with_reducible refine (blives_any _).mono ?_); rintro e w0 ⟨rfl, hk0⟩)
        | (go_at_call 11; (with_reducible refine (of_any _ _).mono ?_); rintro e w1 ⟨rfl, rfl⟩)
        | (go_at_call 24; (with_reducible refine (bInf_any _).mono ?_); rintro e w1 ⟨rfl, rfl⟩)
        | (go_at_call 24; (with_reducible refine (bNInf_any _).mono ?_); rintro e w1 ⟨rfl, rfl⟩)
        | (go_at_call 22; (with_reducible refine (HU.out _).mono ?_); rintro e w1 ⟨rfl, rfl⟩)
        | (go_at_call 23; (with_reducible refine (HD.out _).mono ?_); rintro e w1 ⟨rfl, rfl⟩)
        | (go_at_call 12; (with_reducible refine ((HT.out (by trivial)).1 _).mono ?_); rintro e w1 ⟨rfl, rfl⟩)
        | (go_at_call 23; (with_reducible refine ((HT.out (by trivial)).2.1 _).mono ?_); rintro e w1 ⟨rfl, rfl⟩)
        | (go_at_call 17; (with_reducible refine ((HT.out (by trivial)).2.2 _).mono ?_); rintro e w1 ⟨rfl, rfl⟩)
        | (go_at_call 22; (with_reducible refine ((HL.out (by trivial)).1 _).mono ?_); rintro e w1 ⟨rfl, rfl⟩)
        | (go_at_call 17; (with_reducible refine ((HL.out (by trivial)).2 _).mono ?_); rintro e w1 ⟨rfl, rfl⟩)
        | (go_at_call 15; (with_reducible refine (HS.out _).mono ?_); rintro e w1 ⟨rfl, rfl⟩)
        | (go_at_call 12; (with_reducible refine (HP.out _ hk0).mono ?_); rintro e w1 ⟨rfl, hkx⟩; have hk1 := hk0.trans hkx)
        | (go_at_call 14; (with_reducible refine (Num_err E 12 (by decide) _ (HE.out.kp hk1)).mono ?_); rintro e w2 ⟨rfl, hky⟩))
      go_ret
      exact ⟨rfl, hk1.trans hky⟩
  · have x1 := nself_yes h1
    have x2 := nself_yes h2
    have HW : Hid (∀ w, Calls Tryd.prog 25 #[.float .f64 A, .float .f64 B, .float .f64 C] w fun e w' => e = .returned (.bool true) ∧ w = w') := Lib.hid fun w => between_any A B C w HNA.out ⟨hB, h1⟩ ⟨hC, h2⟩
    clear hE hA h1 h2
    cases t <;> cases l
    all_goals
      go_enter Tryd.func5, Tryd.ntmps5
      go_wp2_with (first
        | (go_at_call 10; (with_reducible refine (blives_any _).mono ?_); rintro e w0 ⟨rfl, hk0⟩)
        | (go_at_call 11; (with_reducible refine (of_any _ _).mono ?_); rintro e w1 ⟨rfl, rfl⟩)
        | (go_at_call 24; (with_reducible refine (bInf_any _).mono ?_); rintro e w1 ⟨rfl, rfl⟩)
        | (go_at_call 24; (with_reducible refine (bNInf_any _).mono ?_); rintro e w1 ⟨rfl, rfl⟩)
        | (go_at_call 22; (with_reducible refine (HU.out _).mono ?_); rintro e w1 ⟨rfl, rfl⟩)
        | (go_at_call 23; (with_reducible refine (HD.out _).mono ?_); rintro e w1 ⟨rfl, rfl⟩)
        | (go_at_call 12; (with_reducible refine ((HT.out (by trivial)).1 _).mono ?_); rintro e w1 ⟨rfl, rfl⟩)
        | (go_at_call 23; (with_reducible refine ((HT.out (by trivial)).2.1 _).mono ?_); rintro e w1 ⟨rfl, rfl⟩)
        | (go_at_call 17; (with_reducible refine ((HT.out (by trivial)).2.2 _).mono ?_); rintro e w1 ⟨rfl, rfl⟩)
        | (go_at_call 22; (with_reducible refine ((HL.out (by trivial)).1 _).mono ?_); rintro e w1 ⟨rfl, rfl⟩)
        | (go_at_call 17; (with_reducible refine ((HL.out (by trivial)).2 _).mono ?_); rintro e w1 ⟨rfl, rfl⟩)
        | (go_at_call 15; (with_reducible refine (HS.out _).mono ?_); rintro e w1 ⟨rfl, rfl⟩))
      go_loop [18, 20] (fun x k => ∃ i : Nat, i ≤ N ∧ x = .float .f64 (upI A i) ∧ k = .int .u64 i) (fun _ k => N - (intOf k).toNat)
      case atStart => exact ⟨0, by omega, rfl, rfl⟩
      case round =>
        obtain ⟨i, hi, rfl, rfl⟩ := hrel
        by_cases hlt : i < N
        · go_wp2_with (go_at_call 22; (with_reducible refine (HI.out i _).mono ?_); rintro e w1 ⟨rfl, rfl⟩)
          go_round
          case rel => exact ⟨i + 1, by omega, rfl, by go_num⟩
          case measure => simp [intOf]; omega
        · obtain rfl : N = i := by omega
          obtain ⟨f1, f2⟩ := hfar.out
          generalize apartB (upI A N) A = D at *
          have d1 : decide ((N : Int) < (D : Int)) = false := by simp; omega
          have d1' : decide (N < D) = false := by simp; omega
          cases hx : (ord (cn (upI A N)) (cn 9218868437227405312) == some .lt) with
          | true =>
            have hD := f2 hx
            have d2 : ((D : Int) != (N : Int)) = false := by rw [hD]; simp
            clear f1 f2 hfar hD
            go_wp2_with (first
              | (go_at_call 12; (with_reducible refine (HF.out _).mono ?_); rintro e w1 ⟨rfl, rfl⟩)
              | (go_at_call 24; (with_reducible refine (bInf_any _).mono ?_); rintro e w1 ⟨rfl, rfl⟩)
              | (go_at_call 25; (with_reducible refine (HW.out _).mono ?_); rintro e w1 ⟨rfl, rfl⟩))
            go_ret
            exact ⟨rfl, hk0⟩
          | false =>
            clear f1 f2 hfar
            go_wp2_with (first
              | (go_at_call 12; (with_reducible refine (HF.out _).mono ?_); rintro e w1 ⟨rfl, rfl⟩)
              | (go_at_call 24; (with_reducible refine (bInf_any _).mono ?_); rintro e w1 ⟨rfl, rfl⟩)
              | (go_at_call 25; (with_reducible refine (HW.out _).mono ?_); rintro e w1 ⟨rfl, rfl⟩))
            go_ret
            exact ⟨rfl, hk0⟩
theorem walk_BitsSteps (a : Int) (wa : (Lit.int .u64 a).wf = true) (b : Int) (wb : (Lit.int .u64 b).wf = true) (c : Int) (wc : (Lit.int .u64 c).wf = true) (n : Int) (wn : (Lit.int .u64 n).wf = true) (E : Nat → Addr) (w : World) (hE : Errs w E) :
    Calls Tryd.prog 5 #[.int .u64 a, .int .u64 b, .int .u64 c, .int .u64 n] w fun e w' => e = .returned (.bool true) ∧ Kp w w' := by
  obtain ⟨A, rfl, hA⟩ := wf_u64 wa
  obtain ⟨B, rfl, hB⟩ := wf_u64 wb
  obtain ⟨C, rfl, hC⟩ := wf_u64 wc
  obtain ⟨N, rfl, hN⟩ := wf_u64 wn
  cases h : isN A with
  | true => exact steps_nan A B C N w hA h
  | false => exact steps_num A B C N E w hE ⟨hA, h⟩ hB hC
end Go.Proofs.YtabnahkheemnmaaDoor
