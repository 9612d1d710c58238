/-
  The walk of DirectSpread: elements alone, over the list spread out.
-/
import Derived.Test.YtmadbdecbkmjkaaDoorDAtL
namespace Go.Proofs.YtmadbdecbkmjkaaDoor
open Go Go.RowKit Go.Fl Go.Roots

theorem acc_mod (f : Nat → Nat × Nat) (n k k' : Int) (h : k % n = k' % n) : ∀ j, acc f n k j = acc f n k' j
  | 0 => rfl
  | j + 1 => by
    show cadd (acc f n k j) (term f n k (j + 1)) = cadd (acc f n k' j) (term f n k' (j + 1))
    rw [acc_mod f n k k' h j]
    unfold term
    rw [h]
theorem dft_mod (f : Nat → Nat × Nat) (n : Nat) (k k' : Int) (h : k % n = k' % n) : dft f n k = dft f n k' := acc_mod f n k k' h _
theorem acc_congr {f f' : Nat → Nat × Nat} (n k : Int) : ∀ j, (∀ i, i ≤ j → f i = f' i) → acc f n k j = acc f' n k j
  | 0, h => h 0 (by omega)
  | j + 1, h => by
    show cadd (acc f n k j) (term f n k (j + 1)) = cadd (acc f' n k j) (term f' n k (j + 1))
    rw [acc_congr n k j fun i hi => h i (by omega)]
    unfold term
    rw [h (j + 1) (by omega)]
theorem dft_congr {f f' : Nat → Nat × Nat} {n : Nat} (k : Int) (hn : 1 ≤ n) (h : ∀ j, j < n → f j = f' j) : dft f n k = dft f' n k := acc_congr n k _ fun i hi => h i (by omega)
theorem NaN_run (w : World) : Calls Tryd.prog 25 #[] w fun e w' => e = .returned (.float .f64 9221120237041090561) ∧ w = w' := by
  go_enter Tryd.func25, Tryd.ntmps25
  go_wp2_with fail
  go_ret
  exact ⟨rfl, rfl⟩
theorem Inf_run (w : World) : Calls Tryd.prog 26 #[.int .i64 1] w fun e w' => e = .returned (.float .f64 9218868437227405312) ∧ w = w' := by
  go_enter Tryd.func26, Tryd.ntmps26
  go_wp2_with fail
  go_ret
  exact ⟨rfl, rfl⟩
/-- Nothing or too much: not looked at. -/
theorem spread_none (ob : Option Addr) (nb cb : Nat) (bs : Nat → Int) (at' jump k : Int) (w : World) (hn : nb ≤ 17592186043904) (hb : Wd w ob nb bs) (h : nb / 2 < 1 ∨ 200 < nb / 2) :
    Calls Tryd.prog 6 #[.slice ob nb cb, .int .i64 at', .int .i64 jump, .int .i64 k] w fun e w' => e = .returned (.bool true) ∧ Kp w w' := by
  have HB := Lib.hid hb
  obtain ⟨m, hm⟩ : ∃ m, nb / 2 = m := ⟨_, rfl⟩
  have HL : Hid (∀ w', Kp w w' → Calls Tryd.prog 12 #[.slice ob nb cb] w' fun e w'' => ∃ g c, e = .returned (.slice (some ⟨g, 0, none⟩) m c) ∧ Kp w' w'') := Lib.hid fun w' hk => by
    refine (listOf_any ob nb cb bs w' (by omega) (HB.out.kp hk)).mono ?_
    rintro e w1 ⟨v, rfl, _, ⟨g, c, rfl⟩, hk1⟩
    exact ⟨g, c, by rw [hm], hk1⟩
  have key : ((m : Int) == 0) = true ∨ (((m : Int) == 0) = false ∧ decide ((200 : Int) < (m : Int)) = true) := by
    rw [hm] at h
    by_cases h0 : m = 0
    · left; rw [h0]; rfl
    · right; exact ⟨by rw [beq_eq_false_iff_ne]; omega, by simp; omega⟩
  clear hb hm h HB
  rcases key with d1 | ⟨d1, d2⟩
  all_goals
    go_enter Tryd.func6, Tryd.ntmps6
    go_wp2_with (first
      | (go_at_call 8; (with_reducible refine (dlives_any _).mono ?_); rintro e w0 ⟨rfl, hk0⟩)
      | (go_at_call 12; (with_reducible refine (HL.out _ hk0).mono ?_); rintro e w1 ⟨g, c, rfl, hk1⟩))
    go_ret
    exact ⟨rfl, hk0.trans hk1⟩
abbrev NI : Value := .complex .f64 9221120237041090561 9218868437227405312
/-- All cells are complex numbers. -/
def AllC (xs : List Value) (n : Nat) : Prop := ∀ j, j < n → ∃ c s, xs[j]? = some (.complex .f64 c s)
theorem AllC.set {xs : List Value} {n : Nat} (h : AllC xs n) (i c s : Nat) (hi : i < xs.length) : AllC (xs.set i (.complex .f64 c s)) n := fun j hj => by
  by_cases e : j = i
  · subst e; exact ⟨c, s, by simp [hi]⟩
  · obtain ⟨c', s', h1⟩ := h j hj
    exact ⟨c', s', by rw [List.getElem?_set_ne (by omega)]; exact h1⟩
def fz (xs : List Value) (j : Nat) : Nat × Nat := match xs[j]? with
  | some (.complex .f64 c s) => (cn c, cn s)
  | _ => (0, 0)
theorem fz_of {xs : List Value} {j c s : Nat} (h : xs[j]? = some (.complex .f64 c s)) : fz xs j = (cn c, cn s) := by unfold fz; rw [h]
theorem AllC.part {xs : List Value} {n : Nat} (h : AllC xs n) : PartC (fz xs) xs n := fun j hj => by
  obtain ⟨c, s, e⟩ := h j hj
  exact ⟨c, s, e, by rw [fz_of e], by rw [fz_of e]⟩
theorem spread_nums (at' jump k : Int) (m : Nat) (hm1 : 1 ≤ m) (hm2 : m ≤ 200) : ∃ A J K M1 X Z : Nat, (A < 7 ∧ 1 ≤ J ∧ J < 6 ∧ K < m ∧ X ≤ 1000 ∧ M1 + 1 = m) ∧ (wrap64 ((IntKind.u64.wrap at').tmod 7) = (A : Int) ∧ wrap64 (1 + wrap64 ((IntKind.u64.wrap jump).tmod 5)) = (J : Int) ∧ wrap64 ((IntKind.u64.wrap k).tmod (m : Int)) = (K : Int)) ∧
    M1 * J = X ∧ A + X + 1 = Z := by
  have u1 : ∀ x : Int, 0 ≤ IntKind.u64.wrap x ∧ IntKind.u64.wrap x < 18446744073709551616 := fun x => by unfold IntKind.wrap; simp [IntKind.bits, IntKind.signed]; omega
  obtain ⟨A, hA⟩ : ∃ A : Nat, IntKind.u64.wrap at' % 7 = (A : Int) := Int.eq_ofNat_of_zero_le (by have := u1 at'; omega)
  obtain ⟨J0, hJ0⟩ : ∃ J0 : Nat, IntKind.u64.wrap jump % 5 = (J0 : Int) := Int.eq_ofNat_of_zero_le (by have := u1 jump; omega)
  obtain ⟨K, hK⟩ : ∃ K : Nat, IntKind.u64.wrap k % (m : Int) = (K : Int) := Int.eq_ofNat_of_zero_le (Int.emod_nonneg _ (by omega))
  have hA7 : A < 7 := by have := u1 at'; omega
  have hJ5 : J0 < 5 := by have := u1 jump; omega
  have hKm : K < m := by have := Int.emod_lt_of_pos (IntKind.u64.wrap k) (show (0 : Int) < m by omega); omega
  have eA : (IntKind.u64.wrap at').tmod 7 = (A : Int) := by rw [Int.tmod_eq_emod_of_nonneg (u1 at').1]; exact hA
  have eJ0 : (IntKind.u64.wrap jump).tmod 5 = (J0 : Int) := by rw [Int.tmod_eq_emod_of_nonneg (u1 jump).1]; exact hJ0
  have eK : (IntKind.u64.wrap k).tmod (m : Int) = (K : Int) := by rw [Int.tmod_eq_emod_of_nonneg (u1 k).1]; exact hK
  have hX : (m - 1) * (1 + J0) ≤ 200 * 5 := Nat.mul_le_mul (by omega) (by omega)
  refine ⟨A, 1 + J0, K, m - 1, (m - 1) * (1 + J0), A + (m - 1) * (1 + J0) + 1, ⟨hA7, by omega, by omega, hKm, by omega, by omega⟩, ⟨?_, ?_, ?_⟩, rfl, rfl⟩
  · rw [eA]; exact IntWalk.wrap64_in _ (by omega)
  · rw [eJ0, IntWalk.wrap64_in (J0 : Int) (by omega), IntWalk.wrap64_in _ (by omega)]; omega
  · rw [eK]; exact IntWalk.wrap64_in _ (by omega)
/-- The first i numbers are spread out. -/
def Put (f : Nat → Nat × Nat) (xs : List Value) (A J i : Nat) : Prop := ∀ j, j < i → ∃ c s, xs[A + j * J]? = some (.complex .f64 c s) ∧ cn c = (f j).1 ∧ cn s = (f j).2
theorem Put.step {f : Nat → Nat × Nat} {xs : List Value} {A J i c s : Nat} (h : Put f xs A J i) (hJ : 1 ≤ J) (hl : A + i * J < xs.length) (hc : cn c = (f i).1) (hs : cn s = (f i).2) : Put f (xs.set (A + i * J) (.complex .f64 c s)) A J (i + 1) := fun j hj => by
  by_cases e : j = i
  · subst e; exact ⟨c, s, by simp [hl], hc, hs⟩
  · obtain ⟨c', s', h1, h2⟩ := h j (by omega)
    have h3 := Nat.mul_le_mul (show j + 1 ≤ i by omega) (Nat.le_refl J)
    rw [Nat.add_mul, Nat.one_mul] at h3
    exact ⟨c', s', by rw [List.getElem?_set_ne (by omega)]; exact h1, h2⟩
theorem Put.fz {f : Nat → Nat × Nat} {xs : List Value} {A J n : Nat} (h : Put f xs A J n) : ∀ j, j < n → fz xs (A + j * J) = f j := fun j hj => by
  obtain ⟨c, s, h1, h2, h3⟩ := h j hj
  rw [fz_of h1, h2, h3]
/-- Five numbers. -/
def qs5 (a b c d e : Int) : Nat → Int
  | 0 => a
  | 1 => b
  | 2 => c
  | 3 => d
  | _ => e
theorem box5 (w : World) (a b c d e : Int) (t : TypeId) (j : Nat) (hj : j < 5) : (w.alloc (.cells #[.int .i64 a, .int .i64 b, .int .i64 c, .int .i64 d, .int .i64 e] t)).cell? ⟨w.heap.size, j, none⟩ = some (.int .i64 (qs5 a b c d e j)) := by
  have h := World.ownsRow_lit (base := w.heap.size) (e := t) (size := 1) w #[.int .i64 a, .int .i64 b, .int .i64 c, .int .i64 d, .int .i64 e] 5 (Nat.le_refl _) (by decide) rfl
  have := h.cellAt j (by omega)
  rcases j with _ | _ | _ | _ | _ | j
  · exact this
  · exact this
  · exact this
  · exact this
  · exact this
  · omega
theorem qs5_in (K m M1 : Nat) (hK : K < m) (hm : m ≤ 200) (hM : M1 + 1 = m) (j : Nat) : -200 ≤ qs5 K ((K : Int) + m) ((K : Int) - m) 0 M1 j ∧ qs5 K ((K : Int) + m) ((K : Int) - m) 0 M1 j ≤ 400 := by
  rcases j with _ | _ | _ | _ | j <;> (simp only [qs5]; omega)
/-- At over the list, and over the list spread out, is Forward's element. -/
theorem at_plain (bs : Nat → Int) (g m c : Nat) (q : Int) (r : Nat) (w : World) (h1 : 1 ≤ m) (h2 : m ≤ 200) (hr : q % (m : Int) = (r : Int)) (hg : Has w g m (lst bs)) :
    Calls Tryd.prog 22 #[.slice (some ⟨g, 0, none⟩) m c, .int .i64 0, .int .i64 1, .int .i64 m, .int .i64 q] w fun e w' => ∃ c s, e = .returned (.tuple #[.complex .f64 c s, .nilIface]) ∧ cn c = (dft (lst bs) m r).1 ∧ cn s = (dft (lst bs) m r).2 ∧ Kp w w' := by
  have hh := At_any g m c 0 1 m q (lst bs) w h1 (by omega) (by omega) (by omega) (by omega) (by omega) (fun h => by
    rw [show ((m : Int) - 1 - ((0 : Nat) : Int)) = (m : Int) - 1 by omega, Int.ediv_self (by omega)]; decide) hg
  have e : dft (fun j => lst bs (0 + j * 1)) m q = dft (lst bs) m r := by
    rw [dft_mod _ m q r (by rw [← hr, Int.emod_emod_of_dvd _ (Int.dvd_refl _)])]
    exact dft_congr _ h1 fun j _ => by rw [Nat.zero_add, Nat.mul_one]
  rw [e] at hh
  exact hh
theorem at_wide (bs : Nat → Int) (xs : List Value) (g m A J M1 X Z : Nat) (q : Int) (r : Nat) (w : World) (h1 : 1 ≤ m) (h2 : m ≤ 200) (hJ1 : 1 ≤ J) (hJ6 : J < 6) (hA : A < 7) (hM : M1 + 1 = m) (hX : M1 * J = X) (hXb : X ≤ 1000) (hZ : A + X + 1 = Z) (hr : q % (m : Int) = (r : Int)) (hg : Has w g Z (fz xs)) (hf : ∀ j, j < m → fz xs (A + j * J) = lst bs j) :
    Calls Tryd.prog 22 #[.slice (some ⟨g, 0, none⟩) Z Z, .int .i64 A, .int .i64 J, .int .i64 m, .int .i64 q] w fun e w' => ∃ c s, e = .returned (.tuple #[.complex .f64 c s, .nilIface]) ∧ cn c = (dft (lst bs) m r).1 ∧ cn s = (dft (lst bs) m r).2 ∧ Kp w w' := by
  have hh := At_any g Z Z A J m q (fz xs) w h1 (by omega) (by omega) (by omega) (by omega) (by omega) (fun h => by
    rw [show ((Z : Int) - 1 - (A : Int)) = (J : Int) * (M1 : Int) by rw [← Int.natCast_mul, Nat.mul_comm, hX]; omega, show (m : Int) - 1 = (M1 : Int) by omega, Int.mul_ediv_cancel _ (by omega)]; exact Int.le_refl _) hg
  have e : dft (fun j => fz xs (A + j * J)) m q = dft (lst bs) m r := by
    rw [dft_mod _ m q r (by rw [← hr, Int.emod_emod_of_dvd _ (Int.dvd_refl _)])]
    exact dft_congr _ h1 hf
  rw [e] at hh
  exact hh
end Go.Proofs.YtmadbdecbkmjkaaDoor
