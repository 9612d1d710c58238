/-
  The walks of Whole, both.
-/
import Derived.Test.YtabnahkheemnmaaDoorBRScl
namespace Go.Proofs.YtabnahkheemnmaaDoor
open Go Go.RowKit Go.Fl

/-- Is it a whole number? -/
def whB (r : Nat) : Bool := decide (rmag r = 0) || (decide (1074 ≤ rexp r) || (decide (1074 - rexp r < 53) && decide (rmag r % 2 ^ (1074 - rexp r) = 0)))
/-- A float cut to a whole number. -/
def trM (r : Nat) : Nat := if 1074 ≤ rexp r then rmag r * 2 ^ (rexp r - 1074) else rmag r / 2 ^ (1074 - rexp r)
def trW (a : Nat) : Nat := sw a + Rk (trM (lo a) * P2 1074) 0
theorem cut_zero (s : Bool) (n d : Nat) : Ieee.Toward.zero.cut s n d = n / 2 ^ d := by
  have e : Ieee.Toward.zero.cut s n d = n / (1 <<< min d (n.log2 + 2)) := by
    unfold Ieee.Toward.cut
    simp
  rw [e, Nat.one_shiftLeft]
  rcases Nat.le_total d (n.log2 + 2) with h | h
  · rw [Nat.min_eq_left h]
  · rw [Nat.min_eq_right h]
    have h1 : n < 2 ^ (n.log2 + 1) := Nat.lt_log2_self
    have h2 : 2 ^ (n.log2 + 1) ≤ 2 ^ (n.log2 + 2) := Nat.pow_le_pow_right (by decide) (by omega)
    have h3 : 2 ^ (n.log2 + 2) ≤ 2 ^ d := Nat.pow_le_pow_right (by decide) h
    rw [Nat.div_eq_of_lt (Nat.lt_of_lt_of_le h1 h2), Nat.div_eq_of_lt (Nat.lt_of_lt_of_le h1 (Nat.le_trans h2 h3))]
theorem toIntegral_num (name : String) (way : Ieee.Toward) (a : Nat) (s : Bool) (m : Nat) (i : Int) (h : FloatKind.f64.decode a = .number s m i) :
    Extern.MathFloor.toIntegral name way #[.float .f64 a] = pure (.float .f64 (FloatKind.f64.encode ((Ieee.Datum.number s m i).integral way))) := by
  have e : Extern.MathFloor.toIntegral name way #[.float .f64 a] = (match FloatKind.f64.decode a with
    | .nan s t =>
      if FloatKind.f64.format.quiet t = t then pure (.float .f64 a) else do
      let kept ← choose (.extern "math.Floor,Ceil,Trunc,RoundToEven.signallingNaN kept" 2)
      pure (.float .f64 (if kept == 1 then a else FloatKind.f64.encode (.nan s (FloatKind.f64.format.quiet t))))
    | d => pure (.float .f64 (FloatKind.f64.encode (d.integral way)))) := rfl
  rw [e, h]
theorem cmp_eq (x y : Int) : (some (compare x y) == some Ordering.eq) = decide (x = y) := by
  simp only [compare, compareOfLessAndEq]
  by_cases h : x < y
  · rw [if_pos h, decide_eq_false (by omega)]; rfl
  · rw [if_neg h]
    by_cases h2 : x = y
    · rw [if_pos h2, decide_eq_true h2]; rfl
    · rw [if_neg h2, decide_eq_false h2]; rfl
theorem run_trunc_fin (a : Nat) (h : a < 18446744073709551616) (hf : lo a < 9218868437227405312) (w : World) :
    (callFunc 57 #[.float .f64 a]).run Tryd.prog w = .ok (.value (.float .f64 (trW a))) w := by
  rw [run_callFunc_extern Tryd.func57 (by kernel_rfl) (by kernel_rfl) (by kernel_rfl) find_trunc]
  obtain ⟨s, e1, e2⟩ := word_of h
  have hr := read_word s (lo a) hf
  rw [← e1] at hr
  have hd : FloatKind.f64.decode a = .number s (rmag (lo a)) (-1074 + (rexp (lo a) : Int)) := hr
  have e : FloatKind.f64.encode ((Ieee.Datum.number s (rmag (lo a)) (-1074 + (rexp (lo a) : Int))).integral .zero) = trW a := by
    show Ieee.double.nearest s (Ieee.Toward.zero.cut s (rmag (lo a) <<< (-1074 + (rexp (lo a) : Int)).toNat) (-(-1074 + (rexp (lo a) : Int))).toNat) 0 = _
    rw [cut_zero, nearest_Rk s _ 0 1074 0 (by omega), e2, Nat.shiftLeft_eq, ← P2_def 1074]
    unfold trW trM
    congr 3
    split
    · rw [show (-1074 + (rexp (lo a) : Int)).toNat = rexp (lo a) - 1074 by omega, show (-(-1074 + (rexp (lo a) : Int))).toNat = 0 by omega, Nat.pow_zero, Nat.div_one]
    · rw [show (-1074 + (rexp (lo a) : Int)).toNat = 0 by omega, show (-(-1074 + (rexp (lo a) : Int))).toNat = 1074 - rexp (lo a) by omega, Nat.pow_zero, Nat.mul_one]
  rw [toIntegral_num _ _ _ _ _ _ hd, e]
  rfl
theorem trunc_any (a t : Nat) (w : World) (h : a < 18446744073709551616) (hf : lo a < 9218868437227405312) (ht : trW a = t) :
    Calls Tryd.prog 53 #[.float .f64 a] w fun e w' => e = .returned (.float .f64 t) ∧ w = w' := by
  have h1 := run_trunc_fin a h hf
  rw [ht] at h1
  clear ht h hf
  go_enter Tryd.func53, Tryd.ntmps53
  go_wp2_with fail
  go_ret
  exact ⟨rfl, rfl⟩
theorem val_split (r : Nat) : (rexp r < 1074 → val r = rmag r * P2 (rexp r) ∧ P2 1074 = 2 ^ (1074 - rexp r) * P2 (rexp r)) ∧ (1074 ≤ rexp r → val r = rmag r * 2 ^ (rexp r - 1074) * P2 1074) := by
  unfold val
  constructor
  · intro h
    refine ⟨by rw [P2_def], ?_⟩
    rw [← P2_def (1074 - rexp r), P2_mul, show 1074 - rexp r + rexp r = 1074 by omega]
  · intro h
    rw [← P2_def (rexp r), ← P2_def (rexp r - 1074), Nat.mul_assoc, P2_mul, show rexp r - 1074 + 1074 = rexp r by omega]
theorem tr_val {r : Nat} (hr : r < 9218868437227405312) : (Rk (trM r * P2 1074) 0 < 9218868437227405312) ∧ (val (Rk (trM r * P2 1074) 0) = val r ↔ whB r = true) := by
  have hm := rmag_lt r
  have hx : rexp r ≤ 2045 := by unfold rexp; omega
  obtain ⟨v1, v2⟩ := val_split r
  unfold trM whB
  by_cases c : 1074 ≤ rexp r
  · rw [if_pos c, ← v2 c, Rk_val0 r hr]
    exact ⟨hr, by simp [c]⟩
  · rw [if_neg c]
    obtain ⟨u1, u2⟩ := v1 (by omega)
    generalize hd : 1074 - rexp r = d at *
    have hq := val_Rk (rmag r / 2 ^ d) 1074 (Nat.lt_of_le_of_lt (Nat.div_le_self _ _) hm) (by decide)
    rw [← P2_def 1074] at hq
    refine ⟨hq.2, ?_⟩
    rw [hq.1, u1, u2, ← Nat.mul_assoc]
    have hp := P2_pos (rexp r)
    have e1 : rmag r / 2 ^ d * 2 ^ d * P2 (rexp r) = rmag r * P2 (rexp r) ↔ rmag r / 2 ^ d * 2 ^ d = rmag r := by
      constructor
      · intro h; exact Nat.eq_of_mul_eq_mul_right hp h
      · intro h; rw [h]
    rw [e1]
    have e2 := Nat.div_add_mod (rmag r) (2 ^ d)
    rw [Nat.mul_comm] at e2
    have e3 : rmag r / 2 ^ d * 2 ^ d = rmag r ↔ rmag r % 2 ^ d = 0 := by omega
    rw [e3]
    by_cases c2 : d < 53
    · simp [c, c2]
      intro h; rw [h]; simp
    · have : 2 ^ 53 ≤ 2 ^ d := Nat.pow_le_pow_right (by decide) (by omega)
      rw [Nat.mod_eq_of_lt (by omega)]
      simp [c, c2]
theorem tr_eq {a : Nat} (h : a < 18446744073709551616) (hf : lo a < 9218868437227405312) : (ord (cn (trW a)) (cn a) == some .eq) = whB (lo a) := by
  obtain ⟨s, e1, e2⟩ := word_of h
  obtain ⟨b1, b2⟩ := tr_val hf
  have h1 := ord_words s s _ (lo a) b1 hf
  rw [← e1, e2] at h1
  have h2 : trW a = sw a + Rk (trM (lo a) * P2 1074) 0 := rfl
  have h3 : lo (trW a) ≤ 9218868437227405312 := by
    have := (sw_add (a := a) (x := Rk (trM (lo a) * P2 1074) 0) h (Nat.lt_trans b1 (by decide))).2.1
    rw [h2, this]; exact Nat.le_of_lt b1
  rw [cn_lo h3, cn_lo (Nat.le_of_lt hf), h2, h1]
  generalize val (Rk (trM (lo a) * P2 1074) 0) = p at *
  generalize val (lo a) = q at *
  have e3 : (some (compare (Fl.sg s p) (Fl.sg s q)) == some Ordering.eq) = decide (p = q) := by
    rw [cmp_eq]
    have e4 : Fl.sg s p = Fl.sg s q ↔ p = q := by
      unfold Fl.sg
      cases s
      · rw [if_neg (by decide), if_neg (by decide)]; omega
      · rw [if_pos rfl, if_pos rfl]; omega
    simp only [e4]
  rw [e3]
  by_cases c : p = q
  · rw [decide_eq_true c, (b2.1 c)]
  · rw [decide_eq_false c]
    cases hw : whB (lo a) with
    | false => rfl
    | true => exact absurd (b2.2 hw) c
set_option maxHeartbeats 800000 in
theorem bWhole_any (a : Nat) (w : World) (h : a < 18446744073709551616) :
    Calls Tryd.prog 38 #[.float .f64 a] w fun e w' => e = .returned (.bool (decide (lo a < 9218868437227405312) && whB (lo a))) ∧ w = w' := by
  by_cases hf : lo a < 9218868437227405312
  · have HF : Hid (∀ w, Calls Tryd.prog 48 #[.float .f64 a] w fun e w' => e = .returned (.bool true) ∧ w = w') := Lib.hid fun w => by
      have := bfin_any a w h; rw [decide_eq_true hf] at this; exact this
    have HT := Lib.hid (trunc_any a _ · h hf rfl)
    have ht := tr_eq h hf
    rw [decide_eq_true hf, Bool.true_and]
    generalize whB (lo a) = b at *
    generalize trW a = t at *
    clear h hf
    cases b
    all_goals
      go_enter Tryd.func38, Tryd.ntmps38
      go_wp2_with (first
        | (go_at_call 48; (with_reducible refine (HF.out _).mono ?_); rintro e w1 ⟨rfl, rfl⟩)
        | (go_at_call 53; (with_reducible refine (HT.out _).mono ?_); rintro e w1 ⟨rfl, rfl⟩))
      go_ret
      exact ⟨rfl, rfl⟩
  · have HF : Hid (∀ w, Calls Tryd.prog 48 #[.float .f64 a] w fun e w' => e = .returned (.bool false) ∧ w = w') := Lib.hid fun w => by
      have := bfin_any a w h; rw [decide_eq_false hf] at this; exact this
    rw [decide_eq_false hf, Bool.false_and]
    clear h hf
    go_enter Tryd.func38, Tryd.ntmps38
    go_wp2_with (go_at_call 48; (with_reducible refine (HF.out _).mono ?_); rintro e w1 ⟨rfl, rfl⟩)
    go_ret
    exact ⟨rfl, rfl⟩
set_option maxHeartbeats 1600000 in
theorem rWhole_any (a : Nat) (w : World) (h : a < 18446744073709551616) :
    Calls Tryd.prog 39 #[.float .f64 a] w fun e w' => e = .returned (.bool (decide (lo a < 9218868437227405312) && whB (lo a))) ∧ w = w' := by
  by_cases hf : lo a < 9218868437227405312
  · have HB := Lib.hid (rb_fin a · (Nat.le_of_lt hf))
    have HP := Lib.hid (rparts_any a · hf)
    have hx : rexp (lo a) ≤ 2046 := by unfold rexp; omega
    have hrm := rmag_lt (lo a)
    have hm := lo_mod63 a
    have HW : Hid (whB (lo a) = (decide (rmag (lo a) = 0) || (decide (1074 ≤ rexp (lo a)) || (decide (1074 - rexp (lo a) < 53) && decide (rmag (lo a) % 2 ^ (1074 - rexp (lo a)) = 0))))) := Lib.hid rfl
    rw [decide_eq_true hf, Bool.true_and]
    generalize whB (lo a) = b at *
    generalize rmag (lo a) = m at *
    generalize rexp (lo a) = y at *
    generalize lo a = r at *
    have d2 : decide ((9218868437227405312 : Int) ≤ (r : Int)) = false := by simp; omega
    clear hf h
    by_cases c1 : m = 0
    · subst c1
      have hb : b = true := by rw [HW.out]; simp
      subst hb
      clear HW
      go_enter Tryd.func39, Tryd.ntmps39
      go_wp2_with (first
        | (go_at_call 35; (with_reducible refine (HB.out _).mono ?_); rintro e w1 ⟨rfl, rfl⟩)
        | (go_at_call 51; (with_reducible refine (HP.out _).mono ?_); rintro e w1 ⟨rfl, rfl⟩))
      go_ret
      exact ⟨rfl, rfl⟩
    · have d3 : ((m : Int) == 0) = false := by rw [beq_eq_false_iff_ne]; omega
      by_cases c2 : 1074 ≤ y
      · have hb : b = true := by rw [HW.out]; simp [c2]
        subst hb
        obtain ⟨E, hE⟩ : ∃ E : Int, (y : Int) - 1074 = E := ⟨_, rfl⟩
        rw [hE] at HP
        have d4 : decide ((0 : Int) ≤ E) = true := by simp; omega
        clear HW hE c2
        go_enter Tryd.func39, Tryd.ntmps39
        go_wp2_with (first
          | (go_at_call 35; (with_reducible refine (HB.out _).mono ?_); rintro e w1 ⟨rfl, rfl⟩)
          | (go_at_call 51; (with_reducible refine (HP.out _).mono ?_); rintro e w1 ⟨rfl, rfl⟩))
        go_ret
        exact ⟨rfl, rfl⟩
      · obtain ⟨E, hE⟩ : ∃ E : Int, (y : Int) - 1074 = E := ⟨_, rfl⟩
        rw [hE] at HP
        have d4 : decide ((0 : Int) ≤ E) = false := by simp; omega
        by_cases c3 : 1074 - y < 53
        · have d5 : decide ((-53 : Int) < E) = true := by simp; omega
          obtain ⟨d, hd⟩ : ∃ d, 1074 - y = d := ⟨_, rfl⟩
          obtain ⟨C, hC⟩ : ∃ C : Int, -E = C := ⟨_, rfl⟩
          have hdC : C.toNat = d := by omega
          obtain ⟨P, hP⟩ : ∃ P, 2 ^ d = P := ⟨_, rfl⟩
          have p2 : 2 ^ d ≤ 2 ^ 52 := Nat.pow_le_pow_right (by decide) (by omega)
          have p3 : 2 ^ 0 ≤ 2 ^ d := Nat.pow_le_pow_right (by decide) (by omega)
          have e3 : IntKind.u64.wrap (2 ^ C.toNat) = (P : Int) := by
            have e7 : (2 : Int) ^ d = ((2 ^ d : Nat) : Int) := by rw [Int.natCast_pow]; rfl
            rw [hdC, e7, hP, IntKind.wrap_u64]; omega
          rw [hP] at p2 p3
          have hP0 : ((P : Int) == 0) = false := by rw [beq_eq_false_iff_ne]; omega
          have hP1 : ¬ (P : Int) = 0 := by omega
          obtain ⟨Q, hQ⟩ : ∃ Q, m % P = Q := ⟨_, rfl⟩
          have hQ2 : (m : Int) % (P : Int) = (Q : Int) := by rw [← hQ]; rfl
          have hb : b = decide (Q = 0) := by rw [HW.out, hd, hP, hQ, decide_eq_false c1, decide_eq_false c2, decide_eq_true (by omega)]; simp
          have hbe : ((Q : Int) == 0) = b := by rw [hb]; by_cases q0 : Q = 0 <;> simp [q0] <;> omega
          have hC0 : 0 ≤ C ∧ C ≤ 60 := by omega
          have hCE : IntKind.i64.wrap (-E) = C := by rw [hC, IntWalk.i64_in _ (by omega)]
          have HC1 := Lib.hid hC
          clear HW hb hQ p2 p3 hP hd hdC hC hE c3 c2 hx
          cases b
          all_goals
            go_enter Tryd.func39, Tryd.ntmps39
            go_wp2_with (first
              | (go_at_call 35; (with_reducible refine (HB.out _).mono ?_); rintro e w1 ⟨rfl, rfl⟩)
              | (go_at_call 51; (with_reducible refine (HP.out _).mono ?_); rintro e w1 ⟨rfl, rfl⟩))
            go_ret
            exact ⟨rfl, rfl⟩
        · have d5 : decide ((-53 : Int) < E) = false := by simp; omega
          have hb : b = false := by rw [HW.out, decide_eq_false c1, decide_eq_false c2, decide_eq_false c3]; rfl
          subst hb
          clear HW hE
          go_enter Tryd.func39, Tryd.ntmps39
          go_wp2_with (first
            | (go_at_call 35; (with_reducible refine (HB.out _).mono ?_); rintro e w1 ⟨rfl, rfl⟩)
            | (go_at_call 51; (with_reducible refine (HP.out _).mono ?_); rintro e w1 ⟨rfl, rfl⟩))
          go_ret
          exact ⟨rfl, rfl⟩
  · rw [decide_eq_false hf, Bool.false_and]
    cases hn : isN a with
    | true =>
      have HB := Lib.hid (rb_nan a · hn)
      clear h hn hf
      go_enter Tryd.func39, Tryd.ntmps39
      go_wp2_with (go_at_call 35; (with_reducible refine (HB.out _).mono ?_); rintro e w1 ⟨rfl, rfl⟩)
      go_ret
      exact ⟨rfl, rfl⟩
    | false =>
      have hq : lo a ≤ 9218868437227405312 := not_isN hn
      have HB := Lib.hid (rb_fin a · hq)
      have hm := lo_mod63 a
      generalize lo a = r at *
      obtain rfl : r = 9218868437227405312 := by omega
      clear hn hq h hf
      go_enter Tryd.func39, Tryd.ntmps39
      go_wp2_with (go_at_call 35; (with_reducible refine (HB.out _).mono ?_); rintro e w1 ⟨rfl, rfl⟩)
      go_ret
      exact ⟨rfl, rfl⟩
end Go.Proofs.YtabnahkheemnmaaDoor
