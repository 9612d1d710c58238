/-
  The walk of RootsTwisted.
-/
import Derived.Test.YtijbkcjbkioefaaDoorRTurned
import Derived.OpenShut
namespace Go.Proofs.YtijbkcjbkioefaaDoor
open Go Go.RowKit Go.Fl Go.Roots Ieee

theorem EQv_fin {x y : Nat} (h : EQv x y) (hy : Fin1 y) : Fin1 x := by
  rcases h with rfl | ⟨⟨s, rfl⟩, _⟩
  · exact hy
  · exact ⟨s, 0, rfl, by decide⟩
theorem sum_zero (s t : Bool) (a : Nat) (ha : a < 0x7ff0000000000000) (z : Bool) (T : Int) (hT : T = sg s (val a)) (hz : z = (if T = 0 then t else decide (T < 0))) : EQv (double.word z (Rk T.natAbs 0)) (double.word s a) := by
  subst hT
  by_cases h0 : a = 0
  · subst h0
    rw [sg_zero]
    refine .inr ⟨⟨z, ?_⟩, ⟨s, rfl⟩⟩
    rw [show (0 : Int).natAbs = 0 from rfl, Rk_zero]
  · left
    have hv : val a ≠ 0 := fun h => h0 (val_eq_zero h)
    have h1 : sg s (val a) ≠ 0 := by
      cases s
      · show ((val a : Nat) : Int) ≠ 0; omega
      · show -((val a : Nat) : Int) ≠ 0; omega
    rw [if_neg h1] at hz
    have h2 : (sg s (val a)).natAbs = val a := by
      cases s
      · show ((val a : Nat) : Int).natAbs = _; omega
      · show (-((val a : Nat) : Int)).natAbs = _; omega
    have h3 : decide (sg s (val a) < 0) = s := by
      cases s
      · show decide (((val a : Nat) : Int) < 0) = false; simp
      · show decide (-((val a : Nat) : Int) < 0) = true; simp; omega
    rw [hz, h3, h2, Rk_val0 a ha]
theorem sub_zero_r (s t : Bool) (a : Nat) (ha : a < 0x7ff0000000000000) : EQv (sub (double.word s a) (double.word t 0)) (double.word s a) := by
  rw [sub_words s t a 0 ha (by decide)]
  exact sum_zero s (s && !t) a ha _ _ (by rw [sg_zero, Int.add_zero]) rfl
theorem sub_zero_l (s t : Bool) (b : Nat) (hb : b < 0x7ff0000000000000) : EQv (sub (double.word s 0) (double.word t b)) (double.word (!t) b) := by
  rw [sub_words s t 0 b (by decide) hb]
  exact sum_zero (!t) (s && !t) b hb _ _ (by rw [sg_zero, Int.zero_add]) rfl
theorem add_zero_r (s t : Bool) (a : Nat) (ha : a < 0x7ff0000000000000) : EQv (add (double.word s a) (double.word t 0)) (double.word s a) := by
  rw [add_words s t a 0 ha (by decide)]
  exact sum_zero s (s && t) a ha _ _ (by rw [sg_zero, Int.add_zero]) rfl
theorem add_zero_l (s t : Bool) (b : Nat) (hb : b < 0x7ff0000000000000) : EQv (add (double.word s 0) (double.word t b)) (double.word t b) := by
  rw [add_words s t 0 b (by decide) hb]
  exact sum_zero t (s && t) b hb _ _ (by rw [sg_zero, Int.zero_add]) rfl
def MONE : Nat := double.word true ONE
theorem mul_mone (s : Bool) (a : Nat) (ha : a < 0x7ff0000000000000) : mul (double.word s a) MONE = double.word (!s) a := by
  unfold MONE
  rw [mul_words s true a ONE ha (by decide), val_ONE, P2_def, Rk_val a 1074 ha]
  cases s <;> rfl
theorem mul_zero' (s : Bool) (a : Nat) (ha : a < 0x7ff0000000000000) : mul (double.word s a) 0 = double.word s 0 := by
  have h := mul_words s false a 0 ha (by decide)
  rw [word_false] at h
  rw [h, val_zero, Nat.mul_zero, Rk_zero]
  cases s <;> rfl
theorem rq1 : rq 1 = (0, MONE) := by decide +kernel
theorem rq2 : rq 2 = (MONE, 0) := by decide +kernel
theorem half_mul {a b : Nat} (ha : Fin1 a) (hb : Fin1 b) : EQv (cmul (a, b) (rq 2)).1 (neg a) ∧ EQv (cmul (a, b) (rq 2)).2 (neg b) := by
  obtain ⟨s, x, rfl, hx⟩ := ha
  obtain ⟨t, y, rfl, hy⟩ := hb
  rw [rq2]
  unfold cmul
  simp only [mul_mone s x hx, mul_mone t y hy, mul_zero' s x hx, mul_zero' t y hy, neg_word s x hx, neg_word t y hy]
  exact ⟨sub_zero_r _ _ _ hx, add_zero_l _ _ _ hy⟩
theorem quarter_mul {a b : Nat} (ha : Fin1 a) (hb : Fin1 b) : EQv (cmul (a, b) (rq 1)).1 b ∧ EQv (cmul (a, b) (rq 1)).2 (neg a) := by
  obtain ⟨s, x, rfl, hx⟩ := ha
  obtain ⟨t, y, rfl, hy⟩ := hb
  rw [rq1]
  unfold cmul
  simp only [mul_mone s x hx, mul_mone t y hy, mul_zero' s x hx, mul_zero' t y hy, neg_word s x hx]
  refine ⟨?_, add_zero_r _ _ _ hx⟩
  have := sub_zero_l s (!t) y hy
  rwa [Bool.not_not] at this
theorem twist_whole (a : Nat × Nat) (n : Int) : twist a n (-5 * n) = a := by
  unfold twist; rw [if_pos (Int.mul_emod_left _ _)]
theorem twist_half (a : Nat × Nat) (n : Int) (h : 1 ≤ n) (h4 : n % 4 = 0) : twist a n (n / 2) = cmul a (rq 2) := by
  have e : n / 2 % n = n / 2 := Int.emod_eq_of_lt (by omega) (by omega)
  unfold twist
  rw [e, if_neg (by omega), root_quarter n (n / 2) 2 h (by rw [e]; omega)]
theorem twist_quarter (a : Nat × Nat) (n : Int) (h : 1 ≤ n) (h4 : n % 4 = 0) : twist a n (n / 4) = cmul a (rq 1) := by
  have e : n / 4 % n = n / 4 := Int.emod_eq_of_lt (by omega) (by omega)
  unfold twist
  rw [e, if_neg (by omega), root_quarter n (n / 4) 1 h (by rw [e]; omega)]

/-- The kinds of a word below 2^64. -/
theorem word_cases (b : Nat) (h : b < 2 ^ 64) : Fin1 b ∨ b % 2 ^ 63 = 0x7ff0000000000000 ∨ isN b = true := by
  have hs := signWeight_double
  have hw : ∀ r : Nat, r = b % 2 ^ 63 → b = double.word (decide (2 ^ 63 ≤ b)) r := by
    intro r hr
    unfold Format.word
    rw [hs]
    by_cases hb : 2 ^ 63 ≤ b
    · simp [hb]; omega
    · simp [hb]; omega
  by_cases h1 : b % 2 ^ 63 < 0x7ff0000000000000
  · exact .inl ⟨_, _, hw _ rfl, h1⟩
  · by_cases h2 : b % 2 ^ 63 = 0x7ff0000000000000
    · exact .inr (.inl h2)
    · refine .inr (.inr ?_)
      have hi := infRung_double
      have hb := binade_double
      unfold isN Format.read
      simp only [hs]
      rw [if_neg (by rw [hb]; omega), if_neg (by rw [hi]; omega), if_neg (by rw [hi]; omega)]
      rfl

theorem fin_cases {b : Nat} (h : Fin1 b) : b % 2 ^ 63 < 0x7ff0000000000000 ∧ b % 2 ^ 63 = (if b < 2 ^ 63 then b else b - 2 ^ 63) := by
  obtain ⟨s, z, rfl, hz⟩ := h
  have hs := signWeight_double
  unfold Format.word
  cases s
  · simp only [Bool.false_eq_true, if_false]
    rw [if_pos (by omega)]; omega
  · simp only [if_true]
    rw [hs, if_neg (by omega)]; omega
theorem abs_bits (b : Nat) (h : b < 2 ^ 64) : bits BinOp.andNot IntKind.u64 (b : Int) 9223372036854775808 = ((b % 2 ^ 63 : Nat) : Int) := by
  unfold bits
  simp only
  have e : BitVec.ofInt 64 (b : Int) &&& ~~~(BitVec.ofInt 64 9223372036854775808) = BitVec.ofNat 64 (b % 2 ^ 63) := by
    apply BitVec.eq_of_toNat_eq
    rw [BitVec.toNat_and, BitVec.toNat_ofNat]
    have h1 : (BitVec.ofInt 64 (b : Int)).toNat = b := by
      rw [BitVec.toNat_ofInt]; omega
    have h2 : (~~~(BitVec.ofInt 64 9223372036854775808)).toNat = 2 ^ 63 - 1 := by decide
    rw [h1, h2, Nat.and_two_pow_sub_one_eq_mod]
    omega
  show IntKind.u64.wrap ((BitVec.ofInt 64 (b : Int) &&& ~~~(BitVec.ofInt 64 9223372036854775808)).toNat : Nat) = _
  rw [e, BitVec.toNat_ofNat]
  show (((b % 2 ^ 63 % 2 ^ 64 : Nat) : Int)) % 18446744073709551616 = _
  omega
set_option maxHeartbeats 400000 in
theorem Abs_any (b : Nat) (w : World) (h : b < 2 ^ 64) :
    Calls Tryd.prog 45 #[.float .f64 b] w fun e w' => e = .returned (.float .f64 (b % 2 ^ 63)) ∧ w = w' := by
  have ha := abs_bits b h
  have HA := Lib.hid ha
  clear ha h
  go_enter Tryd.func45, Tryd.ntmps45
  go_wp2_with fail
  go_ret
  refine ⟨?_, rfl⟩
  show Ending.returned (.float .f64 (bits BinOp.andNot IntKind.u64 (b : Int) 9223372036854775808).toNat) = _
  rw [HA.out]; rfl
theorem inf_ord (b : Nat) : (ord (cn (b % 2 ^ 63)) (cn 9218868437227405311) == some .gt) = decide (b % 2 ^ 63 = 0x7ff0000000000000) := by
  have e1 : cn 9218868437227405311 = 9218868437227405311 := by decide +kernel
  rw [e1]
  by_cases h1 : b % 2 ^ 63 < 0x7ff0000000000000
  · have hf : Fin1 (b % 2 ^ 63) := ⟨false, _, (word_false _).symm, h1⟩
    rw [hf.cn]
    have := ord_words false false (b % 2 ^ 63) 9218868437227405311 h1 (by decide)
    rw [word_false, word_false] at this
    rw [this, decide_eq_false (by omega)]
    have hv := (val_le h1 (show 9218868437227405311 < 0x7ff0000000000000 by decide)).2 (by omega)
    have hne : compare (sg false (val (b % 2 ^ 63))) (sg false (val 9218868437227405311)) ≠ .gt := by
      intro hc
      have := Int.compare_eq_gt.1 hc
      show False
      have e2 : sg false (val (b % 2 ^ 63)) = (val (b % 2 ^ 63) : Int) := rfl
      have e3 : sg false (val 9218868437227405311) = (val 9218868437227405311 : Int) := rfl
      omega
    revert hne
    cases compare (sg false (val (b % 2 ^ 63))) (sg false (val 9218868437227405311)) <;> simp
  · by_cases h2 : b % 2 ^ 63 = 0x7ff0000000000000
    · rw [h2]; decide +kernel
    · have hn : isN (b % 2 ^ 63) = true := by
        rcases word_cases (b % 2 ^ 63) (by omega) with h3 | h3 | h3
        · have := (fin_cases h3).1; omega
        · omega
        · exact h3
      rw [cn_of _ hn, decide_eq_false h2]
      decide +kernel
set_option maxHeartbeats 400000 in
theorem IsInf_any (b : Nat) (w : World) (h : b < 2 ^ 64) :
    Calls Tryd.prog 30 #[.float .f64 b, .int .i64 0] w fun e w' => e = .returned (.bool (decide (b % 2 ^ 63 = 0x7ff0000000000000))) ∧ w = w' := by
  have hi := inf_ord b
  have HI := Lib.hid hi
  have HB := Lib.hid h
  clear hi h
  go_enter Tryd.func30, Tryd.ntmps30
  go_wp2_with (go_at_call 45; (with_reducible refine (Abs_any _ _ HB.out).mono ?_); rintro e w1 ⟨rfl, rfl⟩)
  go_ret
  refine ⟨?_, rfl⟩
  rw [← HI.out]; rfl
theorem isN_ord {b : Nat} (h : isN b = true) : (ord (cn b) (cn b) == some .eq) = false := by
  rw [cn_of _ h]; decide +kernel
theorem inf_mod {b : Nat} (h : Fin1 b) : (decide (b % 2 ^ 63 = 0x7ff0000000000000)) = false := by
  have := (fin_cases h).1
  exact decide_eq_false (by omega)
theorem nan_mod {b : Nat} (h : isN b = true) : (decide (b % 2 ^ 63 = 0x7ff0000000000000)) = false := by
  rw [isN_mod] at h
  have := of_decide_eq_true h
  exact decide_eq_false (by omega)
theorem frombits_lt {x : Int} (h : (Lit.int .u64 x).wf = true) : x.toNat < 2 ^ 64 := by
  have := bounds_u64 h
  omega
theorem fin_or_nan {a b : Nat} (fa : a % 2 ^ 63 ≠ 0x7ff0000000000000) (fb : b % 2 ^ 63 ≠ 0x7ff0000000000000) (h1 : a < 2 ^ 64) (h2 : b < 2 ^ 64) :
    ((ord (cn a) (cn a) == some .eq && ord (cn b) (cn b) == some .eq) = false) ∨ (Fin1 (cn a) ∧ Fin1 (cn b) ∧ (ord (cn a) (cn a) == some .eq) = true ∧ (ord (cn b) (cn b) == some .eq) = true) := by
  rcases word_cases a h1 with ha | ha | ha
  · rcases word_cases b h2 with hb | hb | hb
    · rw [ha.cn, hb.cn]
      exact .inr ⟨ha, hb, ord_eq_of ha (EQv.refl _), ord_eq_of hb (EQv.refl _)⟩
    · exact absurd hb fb
    · rw [isN_ord hb, Bool.and_false]; exact .inl rfl
  · exact absurd ha fa
  · rw [isN_ord ha, Bool.false_and]; exact .inl rfl
theorem half_eq {a b x y p q : Nat} (ha : Fin1 (cn a)) (hb : Fin1 (cn b)) (h1 : p = (cmul (cn a, cn b) (rq 2)).1) (h2 : q = (cmul (cn a, cn b) (rq 2)).2) (h3 : cn x = p) (h4 : cn y = q) :
    (ord (cn x) (neg (cn a)) == some .eq) = true ∧ (ord (cn y) (neg (cn b)) == some .eq) = true := by
  have := half_mul ha hb
  rw [h3, h4, h1, h2]
  exact ⟨ord_eq_of (EQv_fin this.1 ha.neg) this.1, ord_eq_of (EQv_fin this.2 hb.neg) this.2⟩
theorem quarter_eq {a b x y p q : Nat} (ha : Fin1 (cn a)) (hb : Fin1 (cn b)) (h1 : p = (cmul (cn a, cn b) (rq 1)).1) (h2 : q = (cmul (cn a, cn b) (rq 1)).2) (h3 : cn x = p) (h4 : cn y = q) :
    (ord (cn x) (cn b) == some .eq) = true ∧ (ord (cn y) (neg (cn a)) == some .eq) = true := by
  have := quarter_mul ha hb
  rw [h3, h4, h1, h2]
  exact ⟨ord_eq_of (EQv_fin this.1 hb) this.1, ord_eq_of (EQv_fin this.2 ha.neg) this.2⟩
set_option maxRecDepth 100000 in
set_option maxHeartbeats 1000000 in
theorem walk_RootsTwisted (re : Int) (hre : (Lit.int .u64 re).wf = true) (im : Int) (him : (Lit.int .u64 im).wf = true) (n0 : Int) (hwn : (Lit.int .i64 n0).wf = true) (w : World) :
    Calls Tryd.prog 8 #[.int .u64 re, .int .u64 im, .int .i64 n0] w fun e w' => e = .returned (.bool true) ∧ Kp w w' := by
  go_enter Tryd.func8, Tryd.ntmps8
  go_wp2_with fail
  refine (lives_any _).mono ?_
  rintro e w1 ⟨rfl, hk1⟩
  go_wp2_with fail
  refine (fit_any _ _ _ hwn).mono ?_
  rintro e w2 ⟨k, rfl, kl, ku, rfl⟩
  have n1 : 1 ≤ 1 + n0 % 4194304 := by omega
  have n2 : 1 + n0 % 4194304 ≤ 4194304 := by omega
  generalize 1 + n0 % 4194304 = n at n1 n2 ⊢
  have h1 := frombits_lt hre
  have h2 := frombits_lt him
  clear hwn hre him
  generalize re.toNat = a at h1 ⊢
  generalize im.toNat = b at h2 ⊢
  by_cases hb : 4194304 < 4 * (1 + n / 4)
  · go_wp2_with fail
    refine (Twist_any _ _ _ _ _ (by omega) (by omega)).mono ?_
    rintro e w3 ⟨x, y, rfl, hx, hy, hk3⟩
    have S : Hid (cn x = cn a ∧ cn y = cn b) := Lib.hid ⟨hx.trans (congrArg Prod.fst (twist_whole (cn a, cn b) 4194304)), hy.trans (congrArg Prod.snd (twist_whole (cn a, cn b) 4194304))⟩
    clear hx hy
    go_wp2_with fail
    refine (same_yes _ _ _ _ _ S.out.1 S.out.2).mono ?_
    rintro e w4 ⟨rfl, rfl⟩
    clear S
    by_cases fa : a % 2 ^ 63 = 0x7ff0000000000000
    · have IA := Lib.hid (decide_eq_true fa)
      clear fa
      go_wp2_with fail
      refine (IsInf_any _ _ h1).mono ?_
      rintro e w5 ⟨rfl, rfl⟩
      rw [IA.out]
      clear IA
      go_wp2_with fail
      go_ret
      exact ⟨rfl, by (repeat (first | exact Kp.refl _ | refine Kp.drewN ?_ _ | refine Kp.trans ?_ (by assumption)))⟩
    · have IA := Lib.hid (decide_eq_false fa)
      have FA := Lib.hid fa
      clear fa
      go_wp2_with fail
      refine (IsInf_any _ _ h1).mono ?_
      rintro e w5 ⟨rfl, rfl⟩
      rw [IA.out]
      clear IA
      by_cases fb : b % 2 ^ 63 = 0x7ff0000000000000
      · have IA := Lib.hid (decide_eq_true fb)
        clear fb
        go_wp2_with fail
        refine (IsInf_any _ _ h2).mono ?_
        rintro e w6 ⟨rfl, rfl⟩
        rw [IA.out]
        clear IA
        go_wp2_with fail
        go_ret
        exact ⟨rfl, by (repeat (first | exact Kp.refl _ | refine Kp.drewN ?_ _ | refine Kp.trans ?_ (by assumption)))⟩
      · have IA := Lib.hid (decide_eq_false fb)
        have FB := Lib.hid fb
        clear fb
        go_wp2_with fail
        refine (IsInf_any _ _ h2).mono ?_
        rintro e w6 ⟨rfl, rfl⟩
        rw [IA.out]
        clear IA
        rcases fin_or_nan FA.out FB.out h1 h2 with hq | ⟨Fa, Fb, q1, q2⟩
        · go_wp2_with fail
          all_goals (go_ret; exact ⟨rfl, by (repeat (first | exact Kp.refl _ | refine Kp.drewN ?_ _ | refine Kp.trans ?_ (by assumption)))⟩)
        · have Q := Lib.hid (And.intro Fa Fb)
          clear Fa Fb
          go_wp2_with fail
          refine (Twist_any _ _ _ _ _ (by omega) (by omega)).mono ?_
          rintro e w7 ⟨x2, y2, rfl, hx2, hy2, hk7⟩
          have Q2 := Lib.hid (half_eq Q.out.1 Q.out.2 (congrArg Prod.fst (twist_half (cn a, cn b) 4194304 (by omega) (by omega))) (congrArg Prod.snd (twist_half (cn a, cn b) 4194304 (by omega) (by omega))) hx2 hy2)
          clear hx2 hy2
          go_wp2_with fail
          refine (Twist_any _ _ _ _ _ (by omega) (by omega)).mono ?_
          rintro e w8 ⟨x4, y4, rfl, hx4, hy4, hk8⟩
          have Q4 := Lib.hid (quarter_eq Q.out.1 Q.out.2 (congrArg Prod.fst (twist_quarter (cn a, cn b) 4194304 (by omega) (by omega))) (congrArg Prod.snd (twist_quarter (cn a, cn b) 4194304 (by omega) (by omega))) hx4 hy4)
          clear hx4 hy4
          obtain ⟨t1, t2⟩ := Q2.out
          obtain ⟨t3, t4⟩ := Q4.out
          clear Q Q2 Q4
          go_wp2_with fail
          go_ret
          exact ⟨rfl, by (repeat (first | exact Kp.refl _ | refine Kp.drewN ?_ _ | refine Kp.trans ?_ (by assumption)))⟩
  · go_wp2_with fail
    have N1 : 1 ≤ 4 * (1 + n / 4) := by omega
    have N2 : 4 * (1 + n / 4) ≤ 4194304 := by omega
    have N4 : 4 * (1 + n / 4) % 4 = 0 := by omega
    clear hb
    generalize 4 * (1 + n / 4) = N at N1 N2 N4 ⊢
    refine (Twist_any _ _ _ _ _ (by omega) (by omega)).mono ?_
    rintro e w3 ⟨x, y, rfl, hx, hy, hk3⟩
    have S : Hid (cn x = cn a ∧ cn y = cn b) := Lib.hid ⟨hx.trans (congrArg Prod.fst (twist_whole (cn a, cn b) N)), hy.trans (congrArg Prod.snd (twist_whole (cn a, cn b) N))⟩
    clear hx hy
    go_wp2_with fail
    refine (same_yes _ _ _ _ _ S.out.1 S.out.2).mono ?_
    rintro e w4 ⟨rfl, rfl⟩
    clear S
    by_cases fa : a % 2 ^ 63 = 0x7ff0000000000000
    · have IA := Lib.hid (decide_eq_true fa)
      clear fa
      go_wp2_with fail
      refine (IsInf_any _ _ h1).mono ?_
      rintro e w5 ⟨rfl, rfl⟩
      rw [IA.out]
      clear IA
      go_wp2_with fail
      go_ret
      exact ⟨rfl, by (repeat (first | exact Kp.refl _ | refine Kp.drewN ?_ _ | refine Kp.trans ?_ (by assumption)))⟩
    · have IA := Lib.hid (decide_eq_false fa)
      have FA := Lib.hid fa
      clear fa
      go_wp2_with fail
      refine (IsInf_any _ _ h1).mono ?_
      rintro e w5 ⟨rfl, rfl⟩
      rw [IA.out]
      clear IA
      by_cases fb : b % 2 ^ 63 = 0x7ff0000000000000
      · have IA := Lib.hid (decide_eq_true fb)
        clear fb
        go_wp2_with fail
        refine (IsInf_any _ _ h2).mono ?_
        rintro e w6 ⟨rfl, rfl⟩
        rw [IA.out]
        clear IA
        go_wp2_with fail
        go_ret
        exact ⟨rfl, by (repeat (first | exact Kp.refl _ | refine Kp.drewN ?_ _ | refine Kp.trans ?_ (by assumption)))⟩
      · have IA := Lib.hid (decide_eq_false fb)
        have FB := Lib.hid fb
        clear fb
        go_wp2_with fail
        refine (IsInf_any _ _ h2).mono ?_
        rintro e w6 ⟨rfl, rfl⟩
        rw [IA.out]
        clear IA
        rcases fin_or_nan FA.out FB.out h1 h2 with hq | ⟨Fa, Fb, q1, q2⟩
        · go_wp2_with fail
          all_goals (go_ret; exact ⟨rfl, by (repeat (first | exact Kp.refl _ | refine Kp.drewN ?_ _ | refine Kp.trans ?_ (by assumption)))⟩)
        · have Q := Lib.hid (And.intro Fa Fb)
          clear Fa Fb
          go_wp2_with fail
          refine (Twist_any _ _ _ _ _ (by omega) (by omega)).mono ?_
          rintro e w7 ⟨x2, y2, rfl, hx2, hy2, hk7⟩
          have Q2 := Lib.hid (half_eq Q.out.1 Q.out.2 (congrArg Prod.fst (twist_half (cn a, cn b) N (by omega) (by omega))) (congrArg Prod.snd (twist_half (cn a, cn b) N (by omega) (by omega))) hx2 hy2)
          clear hx2 hy2
          go_wp2_with fail
          refine (Twist_any _ _ _ _ _ (by omega) (by omega)).mono ?_
          rintro e w8 ⟨x4, y4, rfl, hx4, hy4, hk8⟩
          have Q4 := Lib.hid (quarter_eq Q.out.1 Q.out.2 (congrArg Prod.fst (twist_quarter (cn a, cn b) N (by omega) (by omega))) (congrArg Prod.snd (twist_quarter (cn a, cn b) N (by omega) (by omega))) hx4 hy4)
          clear hx4 hy4
          obtain ⟨t1, t2⟩ := Q2.out
          obtain ⟨t3, t4⟩ := Q4.out
          clear Q Q2 Q4
          go_wp2_with fail
          go_ret
          exact ⟨rfl, by (repeat (first | exact Kp.refl _ | refine Kp.drewN ?_ _ | refine Kp.trans ?_ (by assumption)))⟩
end Go.Proofs.YtijbkcjbkioefaaDoor
