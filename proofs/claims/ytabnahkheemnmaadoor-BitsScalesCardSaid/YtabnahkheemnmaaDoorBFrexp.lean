/-
  The walks of Frexp and bits.Exponent at any float.
-/
import Derived.Test.YtabnahkheemnmaaDoorBLives
import Derived.Test.YtabnahkheemnmaaDoorBNorm
namespace Go.Proofs.YtabnahkheemnmaaDoor
open Go Go.RowKit Go.Fl

theorem cn_fin {r : Nat} (h : r ≤ 9218868437227405312) : cn r = r := cn_of_not r (isN_of_le (by omega))
theorem cn_lo {a : Nat} (h : lo a ≤ 9218868437227405312) : cn a = a := cn_of_not a (isN_of_le h)
theorem cn_num {r x : Nat} (h : cn r = x) (hx : isN x = false) : r = x := by
  cases hn : isN r with
  | false => rw [← h, cn_of_not r hn]
  | true => rw [cn_of r hn] at h; rw [← h, isN_NAN] at hx; cases hx
theorem ord_pos {r c : Nat} (hr : r < 9218868437227405312) (hc : c < 9218868437227405312) : ord (cn r) (cn c) = some (compare r c) := by
  rw [cn_fin (by omega), cn_fin (by omega)]
  have h := ord_words false false r c hr hc
  rw [word_false, word_false] at h
  rw [h]
  have h1 := val_le hr hc
  have h2 := val_le hc hr
  have e : compare (Fl.sg false (val r)) (Fl.sg false (val c)) = compare r c := by
    show compare ((val r : Nat) : Int) ((val c : Nat) : Int) = compare r c
    simp only [compare, compareOfLessAndEq]
    have e1 : ((val r : Nat) : Int) < ((val c : Nat) : Int) ↔ r < c := by omega
    have e2 : ((val r : Nat) : Int) = ((val c : Nat) : Int) ↔ r = c := by omega
    simp only [e1, e2]
  rw [e]
theorem lt_pos {r c : Nat} (hr : r < 9218868437227405312) (hc : c < 9218868437227405312) : (ord (cn r) (cn c) == some .lt) = decide (r < c) := by
  rw [ord_pos hr hc]
  simp only [compare, compareOfLessAndEq]
  by_cases h : r < c
  · simp [h]
  · by_cases h2 : r = c
    · simp [h2]
    · simp [h, h2]
theorem gt_pos {r c : Nat} (hr : r < 9218868437227405312) (hc : c < 9218868437227405312) : (ord (cn r) (cn c) == some .gt) = decide (c < r) := by
  rw [ord_pos hr hc]
  simp only [compare, compareOfLessAndEq]
  by_cases h : r < c
  · have : ¬ c < r := by omega
    simp [h, this]
  · by_cases h2 : r = c
    · simp [h2]
    · have : c < r := by omega
      simp [h, h2, this]
theorem ord_nought {a : Nat} (h : a < 18446744073709551616) (hl : lo a < 9218868437227405312) : (ord (cn a) 0 == some .eq) = decide (lo a = 0) := by
  obtain ⟨s, e1, e2⟩ := word_of h
  have h1 := ord_words s false (lo a) 0 hl (by decide)
  rw [← e1, word_false] at h1
  rw [cn_lo (by omega), h1]
  have h2 := rmag_zero_iff (lo a)
  have h3 : val (lo a) = 0 ↔ lo a = 0 := by
    unfold val
    rw [Nat.mul_eq_zero]
    have := Nat.two_pow_pos (rexp (lo a))
    omega
  have e : val 0 = 0 := val_zero
  rw [e]
  generalize val (lo a) = v at h3
  by_cases h5 : lo a = 0
  · obtain rfl := h3.2 h5
    rw [decide_eq_true h5]
    cases s <;> decide
  · have h6 : 0 < v := by omega
    rw [decide_eq_false h5]
    unfold Fl.sg
    cases s
    · simp only [compare, compareOfLessAndEq]
      rw [if_neg (by simp), if_neg (by simp; omega)]; rfl
    · simp only [compare, compareOfLessAndEq]
      rw [if_pos (by simp; omega)]; rfl
theorem bfin_any (a : Nat) (w : World) (h : a < 18446744073709551616) :
    Calls Tryd.prog 48 #[.float .f64 a] w fun e w' => e = .returned (.bool (decide (lo a < 9218868437227405312))) ∧ w = w' := by
  refine bfinite_any a (a / 4503599627370496 % 2048 * 4503599627370496) _ w (b_and_inf h) ?_
  have e : lo a < 9218868437227405312 ↔ ¬ a / 4503599627370496 % 2048 = 2047 := by unfold lo; omega
  by_cases h1 : a / 4503599627370496 % 2048 = 2047
  · rw [h1, decide_eq_false (by rw [e]; omega)]; rfl
  · rw [decide_eq_true (by rw [e]; exact h1)]
    simp
    omega
theorem norm_big (a : Nat) (w : World) (h : a < 18446744073709551616) (h1 : lo a < 9218868437227405312) (h2 : 4503599627370496 ≤ lo a) :
    Calls Tryd.prog 61 #[.float .f64 a] w fun e w' => e = .returned (.tuple #[.float .f64 a, .int .i64 0]) ∧ Kp w w' :=
  (norm_lit a w (lo a) (b_andNot_sign h) (by rw [lt_pos h1 (by decide)]; exact decide_eq_false (by omega))).mono fun e w' ⟨he, hw⟩ => ⟨he, hw ▸ Kp.refl w⟩
set_option maxHeartbeats 400000 in
theorem norm_small (a Y : Nat) (w : World) (h : a < 18446744073709551616) (h0 : 0 < lo a) (h2 : lo a < 4503599627370496) (hY : sw a + ((lo a).log2 * 4503599627370496 + nM (lo a)) = Y) (hn : isN Y = false) :
    Calls Tryd.prog 61 #[.float .f64 a] w fun e w' => e = .returned (.tuple #[.float .f64 Y, .int .i64 (-52)]) ∧ Kp w w' := by
  have hlt : (ord (cn (lo a)) (cn 4503599627370496) == some .lt) = true := by rw [lt_pos (by omega) (by decide)]; exact decide_eq_true h2
  have HA := Lib.hid (b_andNot_sign h)
  have HM := Lib.hid ((mul_small h h0 h2).trans hY)
  have HN := Lib.hid hn
  generalize hL : lo a = L at hlt HA
  clear hY h0 h2 hL h hn
  go_enter Tryd.func61, Tryd.ntmps61
  go_wp2_with (first
    | (go_at_call 29; (with_reducible refine (babs_any a L _ HA.out).mono ?_); rintro e w1 ⟨rfl, rfl⟩)
    | ((with_reducible apply wpList_fl .mul rfl); exact rfl; exact rfl; intro r1 n1 hr1))
  have hr : r1 = Y := cn_num (by rw [hr1]; show mul (cn a) (cn _) = Y; rw [mul_cn]; exact HM.out) HN.out
  subst hr
  go_ret2
  exact ⟨rfl, (Kp.refl w).drewN _⟩
set_option maxHeartbeats 1000000 in
theorem frexp_of (a Y L fr : Nat) (K ex : Int) (w : World) (h1 : (ord (cn a) 0 == some .eq) = false) (hA : bits BinOp.andNot IntKind.u64 (a : Int) 9223372036854775808 = (L : Int)) (h3 : (ord (cn L) (cn 9218868437227405311) == some .gt) = false) (h4 : (ord (cn a) (cn a) != some .eq) = false)
    (HN : Hid (∀ w, Calls Tryd.prog 61 #[.float .f64 a] w fun e w' => e = .returned (.tuple #[.float .f64 Y, .int .i64 K]) ∧ Kp w w'))
    (h5 : (bits BinOp.or IntKind.u64 (bits BinOp.andNot IntKind.u64 (Y : Int) 9218868437227405312) 4602678819172646912).toNat = fr)
    (h6 : wrap64 (K + wrap64 (wrap64 (wrap64 (bits BinOp.and IntKind.u64 ((Y : Int) / 4503599627370496) 2047) - 1023) + 1)) = ex) :
    Calls Tryd.prog 49 #[.float .f64 a] w fun e w' => e = .returned (.tuple #[.float .f64 fr, .int .i64 ex]) ∧ Kp w w' := by
  have HA := Lib.hid hA
  have H5 := Lib.hid h5
  have H6 := Lib.hid h6
  have e0 := cn_0
  have HF : Hid (∀ w, Calls Tryd.prog 56 #[.float .f64 a] w fun e w' => e = .returned (.tuple #[.float .f64 fr, .int .i64 ex]) ∧ Kp w w') := Lib.hid fun w => by
    clear hA h5 h6
    go_enter Tryd.func56, Tryd.ntmps56
    go_wp2_with (first
      | (go_at_call 59; (with_reducible refine (isinf_lit a _ L HA.out h3).mono ?_); rintro e w1 ⟨rfl, rfl⟩)
      | (go_at_call 60; (with_reducible refine (isnan_lit a _ h4).mono ?_); rintro e w1 ⟨rfl, rfl⟩)
      | (go_at_call 61; (with_reducible refine (HN.out _).mono ?_); rintro e w1 ⟨rfl, hk1⟩))
    go_ret2
    exact ⟨by rw [← H5.out, ← H6.out]; rfl, hk1⟩
  clear hA h5 h6 h1 h3 h4
  go_enter Tryd.func49, Tryd.ntmps49
  go_wp2_with (go_at_call 56; (with_reducible refine (HF.out _).mono ?_); rintro e w1 ⟨rfl, hk1⟩)
  go_ret2
  exact ⟨rfl, hk1⟩
/-- The fraction that Frexp answers. -/
def frw (a : Nat) : Nat := sw a + (4602678819172646912 + (nM (lo a) - 4503599627370496))
theorem lo_mod (Y : Nat) : Y % 4503599627370496 = lo Y % 4503599627370496 := by unfold lo; omega
theorem lo_div (Y : Nat) : Y / 4503599627370496 % 2048 = lo Y / 4503599627370496 := by unfold lo; omega
theorem frw_word {a Y : Nat} (h : a < 18446744073709551616) (hy : Y < 18446744073709551616) (hs : sw Y = sw a) (hm : Y % 4503599627370496 = nM (lo a) - 4503599627370496) :
    (bits BinOp.or IntKind.u64 (bits BinOp.andNot IntKind.u64 (Y : Int) 9218868437227405312) 4602678819172646912).toNat = frw a := by
  rw [b_andNot_inf hy, b_or_half hy (Nat.mod_lt _ (by decide)), Int.toNat_natCast, hs, hm]
  unfold frw
  rfl
theorem exp_word {Y q : Nat} (K : Int) (hy : Y < 18446744073709551616) (hk : -60 ≤ K ∧ K ≤ 60) (hq : Y / 4503599627370496 % 2048 = q) :
    wrap64 (K + wrap64 (wrap64 (wrap64 (bits BinOp.and IntKind.u64 ((Y : Int) / 4503599627370496) 2047) - 1023) + 1)) = K + q - 1022 := by
  have e : (Y : Int) / 4503599627370496 = ((Y / 4503599627370496 : Nat) : Int) := (Int.natCast_ediv Y 4503599627370496).symm
  rw [e, b_and_2047 (Nat.lt_of_le_of_lt (Nat.div_le_self _ _) hy), hq]
  have : q < 2048 := by rw [← hq]; exact Nat.mod_lt _ (by decide)
  clear hq e hy
  simp only [wrap64]
  omega
theorem z_facts {a : Nat} (h : a < 18446744073709551616) (h0 : 0 < lo a) (hf : lo a < 9218868437227405312) :
    (ord (cn a) 0 == some .eq) = false ∧ (ord (cn (lo a)) (cn 9218868437227405311) == some .gt) = false ∧ (ord (cn a) (cn a) != some .eq) = false := by
  refine ⟨?_, ?_, ?_⟩
  · rw [ord_nought h hf]; exact decide_eq_false (by omega)
  · rw [gt_pos hf (by decide)]; exact decide_eq_false (by omega)
  · exact nself_yes (isN_of_le (show lo a ≤ _ by omega))
theorem frexp_any (a : Nat) (w : World) (h : a < 18446744073709551616) (h0 : 0 < lo a) (hf : lo a < 9218868437227405312) :
    Calls Tryd.prog 49 #[.float .f64 a] w fun e w' => e = .returned (.tuple #[.float .f64 (frw a), .int .i64 (nE (lo a) - 1021)]) ∧ Kp w w' := by
  obtain ⟨z1, z3, z4⟩ := z_facts h h0 hf
  rcases Nat.lt_or_ge (lo a) 4503599627370496 with hs | hs
  · obtain ⟨m1, m2, m3⟩ := nM_small h0 hs
    obtain ⟨_, l2, _, _⟩ := nl_small h0 hs
    have hE := nE_small h0 hs
    generalize hq : (lo a).log2 = q at l2 hE
    obtain ⟨Y, hY⟩ : ∃ Y, sw a + (q * 4503599627370496 + nM (lo a)) = Y := ⟨_, rfl⟩
    obtain ⟨y1, y2, y3⟩ := sw_add (a := a) (x := q * 4503599627370496 + nM (lo a)) h (by omega)
    rw [hY] at y1 y2 y3
    have e1 : Y % 4503599627370496 = nM (lo a) - 4503599627370496 := by rw [lo_mod, y2]; clear hE; omega
    have e2 : Y / 4503599627370496 % 2048 = q + 1 := by rw [lo_div, y2]; clear hE; omega
    have hw := exp_word (-52) y3 (by omega) e2
    have hex : (-52 : Int) + ((q + 1 : Nat) : Int) - 1022 = nE (lo a) - 1021 := by rw [hE]; omega
    have hn0 : lo Y ≤ 9218868437227405312 := Nat.le_trans (Nat.le_of_eq y2) (by clear hE hw hex e1 e2 y1 y2 y3 hY; omega)
    have hn : isN Y = false := isN_of_le hn0
    exact frexp_of a Y (lo a) (frw a) (-52) (nE (lo a) - 1021) w z1 (b_andNot_sign h) z3 z4 (Lib.hid fun w => norm_small a Y w h h0 hs (by rw [hq]; exact hY) hn) (frw_word h y3 y1 e1) (hw.trans hex)
  · have m1 := nM_normal hs
    have hE := nE_normal hs
    have e1 : a % 4503599627370496 = nM (lo a) - 4503599627370496 := by rw [m1, lo_mod]; omega
    have e2 : a / 4503599627370496 % 2048 = lo a / 4503599627370496 := lo_div a
    have hw := exp_word 0 h (by omega) e2
    have hex : (0 : Int) + ((lo a / 4503599627370496 : Nat) : Int) - 1022 = nE (lo a) - 1021 := by rw [hE]; omega
    exact frexp_of a a (lo a) (frw a) 0 (nE (lo a) - 1021) w z1 (b_andNot_sign h) z3 z4 (Lib.hid fun w => norm_big a w h hf hs) (frw_word h h rfl e1) (hw.trans hex)
end Go.Proofs.YtabnahkheemnmaaDoor
