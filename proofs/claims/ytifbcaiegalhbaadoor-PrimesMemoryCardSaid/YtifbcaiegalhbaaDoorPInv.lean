/-
  The walks of Inverse and Join, and of the references' own.
-/
import Derived.Test.YtifbcaiegalhbaaDoorPMul
namespace Go.Proofs.YtifbcaiegalhbaaDoor
open Go Go.RowKit Go.Fl Go.Pr

theorem lessI_nat {a b m : Nat} (h : b ≤ m) : lessI a b m = ((less a b m : Nat) : Int) := by
  unfold lessI less
  by_cases h1 : b ≤ a
  · rw [if_pos (by omega), if_pos h1]; omega
  · rw [if_neg (by omega), if_neg h1]; omega
/-- Euclid's way, as far as it is to go. -/
def eucl (m r s x y : Nat) : Nat × Nat := invF m s r s x y
theorem eucl_zero (m r x y : Nat) : eucl m r 0 x y = (r, x) := rfl
theorem eucl_step {m r s x y : Nat} (h : 0 < s) : eucl m r s x y = eucl m s (r % s) y (less x (r / s * y % m) m) := by
  unfold eucl
  obtain ⟨k, rfl⟩ : ∃ k, s = k + 1 := ⟨s - 1, by omega⟩
  have := Nat.mod_lt r h
  rw [invF_step _ _ _ _ _ _ (by omega), invF_more m k (r % (k + 1)) _ _ _ _ (by omega) (Nat.le_refl _)]
theorem inv_eucl (a m : Nat) : inv a m = eucl m m (a % m) 0 (1 % m) := rfl
/-- What Inverse answers at coprime arguments. -/
def invN (a m : Nat) : Nat := (inv a m).2
theorem invN_mul {a m : Nat} (hm : 0 < m) (h : Nat.gcd m a = 1) : invN a m < m ∧ a * invN a m % m = 1 % m := inv_mul hm (by rw [gcd_mod]; exact h)
theorem inv_snd_lt {a m : Nat} (hm : 0 < m) : invN a m < m := (invF_inv (a := a) hm (a % m) m (a % m) 0 (1 % m) (Nat.le_refl _) hm (Nat.mod_lt _ hm) (by simp) (by rw [Nat.mul_mod, Nat.mod_mod, ← Nat.mul_mod, Nat.one_mul, Nat.mod_mod])).1
theorem inv_fst (a m : Nat) : (inv a m).1 = Nat.gcd m a := by rw [inv_gcd, gcd_mod]

/-- The two errors that the calls hand back. -/
def Ers (w : World) (E : Nat → Addr) : Prop := errAt w 0 (E 10) ∧ errAt w 1 (E 4)
theorem Ers.kp {w w' : World} {E : Nat → Addr} (h : Ers w E) (k : Kp w w') : Ers w' E := ⟨k.later h.1, k.later h.2⟩
theorem Ers.drewN {w : World} {E : Nat → Addr} (h : Ers w E) (n : Nat) : Ers (w.drewN n) E := h.kp ((Kp.refl w).drewN n)
theorem Ers.root {w : World} {E : Nat → Addr} (h : Ers w E) : errAt w 0 (E 10) := h.1
theorem Ers.rng {w : World} {E : Nat → Addr} (h : Ers w E) : errAt w 1 (E 4) := h.2
theorem Errs.root {w : World} {E : Nat → Addr} (hE : Errs w E) : errAt w 0 (E 10) := hE.cell 10 (by decide)
theorem Errs.ers {w : World} {E : Nat → Addr} (hE : Errs w E) : Ers w E := ⟨hE.root, hE.range⟩
abbrev errR (a : Addr) : Value := .iface 64 (.pointer (some a))
set_option maxHeartbeats 1000000 in
theorem Inverse_bad0 (a : Int) (aE : Addr) (w : World) (hE : errAt w 0 aE) :
    Calls Tryd.prog 12 #[.int .u64 a, .int .u64 0] w fun e w' => e = .returned (.tuple #[.int .u64 0, errR aE]) ∧ Dr w w' := by
  unfold errAt at hE
  go_enter Tryd.func12, Tryd.ntmps12
  go_wp2_with fail
  go_quiet (fail)
  go_wp2_with fail
  go_ret2
  exact ⟨rfl, (Dr.refl w).drewN nq⟩
/-- One walk for both ends: the loop, then what is behind it. -/
def InvEnd (a m : Nat) (aE : Addr) (e : Ending) : Prop :=
  (Nat.gcd m a = 1 → e = .returned (.tuple #[.int .u64 (invN a m : Nat), .nilIface])) ∧ (Nat.gcd m a ≠ 1 → e = .returned (.tuple #[.int .u64 0, errR aE]))
set_option maxHeartbeats 1000000 in
theorem Inverse_nat (a m : Nat) (aE : Addr) (w : World) (hE : errAt w 0 aE) (h2 : a ≤ 18446744073709551615) (h5 : 0 < m) (h6 : m ≤ 18446744073709551615) :
    Calls Tryd.prog 12 #[.int .u64 a, .int .u64 m] w fun e w' => InvEnd a m aE e ∧ Dr w w' := by
  have hE0 := Lib.hid hE
  unfold errAt at hE
  have d1 : ((m : Int) == 0) = false := by rw [beq_eq_false_iff_ne]; omega
  have dm : ((m : Int) != 0) = true := by rw [bne_iff_ne]; omega
  go_enter Tryd.func12, Tryd.ntmps12
  go_wp2_with fail
  go_quiet (fail)
  go_wp2_with fail
  obtain ⟨w1, hw1⟩ : ∃ w1, w.drewN nq = w1 := ⟨_, rfl⟩
  have hk1 : Dr w w1 := ⟨nq, hw1.symm⟩
  have hE1 := hk1.kp.later hE
  rw [hw1]
  clear hw1 hE
  go_quiet (fail)
  go_wp2_with fail
  have hk2 : Dr w (w1.drewN nq) := hk1.drewN nq
  have hE2 := ((Dr.refl w1).drewN nq).kp.later hE1
  generalize w1.drewN nq = w2 at *
  clear hE1 hk1
  go_loopw [6, 7, 8, 9, 10] (fun x6 x7 x8 x9 _ wr => ∃ r s x y : Nat, x6 = .int .u64 r ∧ x7 = .int .u64 s ∧ x8 = .int .u64 x ∧ x9 = .int .u64 y ∧ r ≤ 18446744073709551615 ∧ s ≤ 18446744073709551615 ∧ x < m ∧ y < m ∧ Hid (eucl m r s x y = inv a m) ∧ Dr w wr) (fun _ x7 _ _ _ _ => (intOf x7).toNat)
  case atStart => exact ⟨m, a % m, 0, 1 % m, rfl, by simp, rfl, by simp, h6, by have := Nat.mod_le a m; omega, h5, Nat.mod_lt _ h5, Lib.hid rfl, hk2⟩
  case round =>
    clear hk2
    obtain ⟨r, s, x, y, rfl, rfl, rfl, rfl, hr, hs, hx, hy, HG, hk⟩ := hrel
    rcases Nat.eq_zero_or_pos s with rfl | hs0
    · have HF : Hid (r = Nat.gcd m a ∧ x = invN a m) := by
        have := HG.out
        rw [eucl_zero] at this
        exact Lib.hid ⟨by rw [← inv_fst, ← this], by show x = (inv a m).2; rw [← this]⟩
      by_cases h1 : r = 1
      · have d2 : ((r : Int) != 1) = false := by rw [h1]; rfl
        have e : (x : Int) % (m : Int) = (x : Int) := Int.emod_eq_of_lt (by omega) (by omega)
        have He := Lib.hid e
        have H1 := Lib.hid h1
        clear e h1
        go_wp2_with fail
        go_ret2
        refine ⟨⟨fun _ => ?_, fun h => absurd (HF.out.1.symm.trans H1.out) h⟩, hk⟩
        rw [He.out, HF.out.2]
        rfl
      · have d2 : ((r : Int) != 1) = true := by rw [bne_iff_ne]; omega
        have hE3 : wr.cell? ⟨0, 0, none⟩ = _ := hk.kp.later hE0.out
        go_wp2_with fail
        go_quiet (fail)
        go_wp2_with fail
        go_ret2
        exact ⟨⟨fun h => absurd (HF.out.1.trans h) h1, fun _ => rfl⟩, hk.drewN nq⟩
    · have d0 : ((s : Int) != 0) = true := by rw [bne_iff_ne]; omega
      have HE := Lib.hid (eucl_step (m := m) (r := r) (x := x) (y := y) hs0)
      obtain ⟨q, hq⟩ : ∃ q, r / s = q := ⟨_, rfl⟩
      have hqb : q ≤ r := by rw [← hq]; exact Nat.div_le_self _ _
      have e1 : IntKind.u64.wrap ((r : Int) / (s : Int)) = (q : Int) := by rw [← Int.natCast_ediv, hq, wrapN]; omega
      have HQ := Lib.hid hq
      have hm1 := emod_in (a := (q : Int) * (y : Int)) (m := (m : Int)) (by omega)
      clear hq
      go_wp2_with fail
      go_quiet (fail)
      have hk' := hk.drewN nq
      generalize wr.drewN nq = w3 at *
      go_wp2_with (first
        | (go_at_call 17; (with_reducible refine (Mul_any _ _ _ _ (by omega) (by omega) (by omega) (by omega) (by omega) (by omega)).mono ?_); rintro e w4 ⟨rfl, hd1⟩)
        | (go_at_call 38; (with_reducible refine (less_any _ _ _ _ (by omega) (by omega) (by omega) (by omega) (by omega)).mono ?_); rintro e w5 ⟨rfl, hd2⟩))
      go_roundw
      case rel => exact ⟨s, r % s, y, less x (q * y % m) m, rfl, by simp, rfl, by rw [mul_cast, lessI_nat (Nat.le_of_lt (Nat.mod_lt _ h5))], hs, by have := Nat.mod_lt r hs0; omega, hy, less_lt hx, Lib.hid (by rw [← HG.out, HE.out, HQ.out]), (hk'.trans hd1).trans hd2⟩
      case measure => have := Nat.mod_lt r hs0; simp [intOf]; omega
theorem Inverse_yes (a m : Int) (aE : Addr) (w : World) (hE : errAt w 0 aE) (h1 : 0 ≤ a) (h2 : a ≤ 18446744073709551615) (h5 : 0 < m) (h6 : m ≤ 18446744073709551615) (hg : Int.gcd m a = 1) :
    Calls Tryd.prog 12 #[.int .u64 a, .int .u64 m] w fun e w' => e = .returned (.tuple #[.int .u64 (invN a.toNat m.toNat : Nat), .nilIface]) ∧ Dr w w' := by
  obtain ⟨a, rfl⟩ := Int.eq_ofNat_of_zero_le h1
  obtain ⟨m, rfl⟩ := Int.eq_ofNat_of_zero_le (show 0 ≤ m by omega)
  exact (Inverse_nat a m aE w hE (by omega) (by omega) (by omega)).mono fun e w' ⟨h, hk⟩ => ⟨h.1 hg, hk⟩
theorem Inverse_no (a m : Int) (aE : Addr) (w : World) (hE : errAt w 0 aE) (h1 : 0 ≤ a) (h2 : a ≤ 18446744073709551615) (h5 : 0 ≤ m) (h6 : m ≤ 18446744073709551615) (hg : m = 0 ∨ Int.gcd m a ≠ 1) :
    Calls Tryd.prog 12 #[.int .u64 a, .int .u64 m] w fun e w' => e = .returned (.tuple #[.int .u64 0, errR aE]) ∧ Dr w w' := by
  by_cases h0 : m = 0
  · subst h0; exact Inverse_bad0 a aE w hE
  · obtain ⟨a, rfl⟩ := Int.eq_ofNat_of_zero_le h1
    obtain ⟨m, rfl⟩ := Int.eq_ofNat_of_zero_le (show 0 ≤ m by omega)
    exact (Inverse_nat a m aE w hE (by omega) (by omega) (by omega)).mono fun e w' ⟨h, hk⟩ => ⟨h.2 (hg.resolve_left h0), hk⟩

/-! ### The reference's -/
set_option maxHeartbeats 1000000 in
theorem rInverse_yes (a m : Nat) (w : World) (h2 : a ≤ 18446744073709551615) (h5 : 0 < m) (h6 : m ≤ 18446744073709551615) (hg : Nat.gcd m a = 1) :
    Calls Tryd.prog 13 #[.int .u64 a, .int .u64 m] w fun e w' => e = .returned (.tuple #[.int .u64 (invN a m : Nat), .int .i64 0]) ∧ Dr w w' := by
  have d1 : ((m : Int) == 0) = false := by rw [beq_eq_false_iff_ne]; omega
  have am := emod_in (a := (a : Int)) (m := (m : Int)) (by omega)
  have hg' : Int.gcd ((a : Int) % (m : Int)) (m : Int) = 1 := by
    rw [← Int.natCast_emod, Int.gcd_natCast_natCast, Nat.gcd_comm, gcd_mod]; exact hg
  have HGC : ∀ w', Calls Tryd.prog 39 #[.int .u64 ((a : Int) % (m : Int)), .int .u64 m] w' fun e w'' => e = .returned (.int .u64 1) ∧ Dr w' w'' := fun w' =>
    (rgcd_any _ _ w' am.1 (by omega) (by omega) (by omega)).mono fun e w'' ⟨he, hk⟩ => ⟨by rw [he, hg']; rfl, hk⟩
  have HC := Lib.hid HGC
  have HG0 := Lib.hid hg
  clear hg hg' am HGC
  go_enter Tryd.func13, Tryd.ntmps13
  go_wp2_with (go_at_call 39; (with_reducible refine (HC.out _).mono ?_); rintro e w0 ⟨rfl, hk0⟩)
  go_quiet (fail)
  go_wp2_with fail
  have hk1 : Dr w (w0.drewN nq) := hk0.drewN nq
  generalize w0.drewN nq = w1 at *
  clear hk0
  go_quiet (fail)
  go_wp2_with fail
  have hk2 : Dr w (w1.drewN nq) := hk1.drewN nq
  generalize w1.drewN nq = w2 at *
  clear hk1 HC
  go_loopw [6, 7, 8, 9, 10, 11, 12] (fun x6 x7 x8 x9 _ _ _ wr => ∃ r s x y : Nat, x6 = .int .u64 r ∧ x7 = .int .u64 s ∧ x8 = .int .u64 x ∧ x9 = .int .u64 y ∧ r ≤ 18446744073709551615 ∧ s ≤ 18446744073709551615 ∧ x < m ∧ y < m ∧ Hid (eucl m r s x y = inv a m) ∧ Dr w wr) (fun _ x7 _ _ _ _ _ _ => (intOf x7).toNat)
  case atStart => exact ⟨m, a % m, 0, 1 % m, rfl, by simp, rfl, by simp, h6, by have := Nat.mod_le a m; omega, h5, Nat.mod_lt _ h5, Lib.hid rfl, hk2⟩
  case round =>
    clear hk2
    obtain ⟨r, s, x, y, rfl, rfl, rfl, rfl, hr, hs, hx, hy, HG, hk⟩ := hrel
    rcases Nat.eq_zero_or_pos s with rfl | hs0
    · have HF : Hid (x = invN a m) := by
        have := HG.out
        rw [eucl_zero] at this
        exact Lib.hid (by show x = (inv a m).2; rw [← this])
      have e : (x : Int) % (m : Int) = (x : Int) := Int.emod_eq_of_lt (by omega) (by omega)
      have He := Lib.hid e
      clear e
      go_wp2_with fail
      go_ret2
      refine ⟨?_, hk⟩
      rw [He.out, HF.out]
      rfl
    · have d0 : ((s : Int) != 0) = true := by rw [bne_iff_ne]; omega
      have HE := Lib.hid (eucl_step (m := m) (r := r) (x := x) (y := y) hs0)
      obtain ⟨q, hq⟩ : ∃ q, r / s = q := ⟨_, rfl⟩
      have hqb : q ≤ r := by rw [← hq]; exact Nat.div_le_self _ _
      have e1 : IntKind.u64.wrap ((r : Int) / (s : Int)) = (q : Int) := by rw [← Int.natCast_ediv, hq, wrapN]; omega
      obtain ⟨p, hp⟩ : ∃ p, q * s = p := ⟨_, rfl⟩
      have hd := Nat.div_add_mod r s
      rw [hq, Nat.mul_comm, hp] at hd
      have e2 : IntKind.u64.wrap ((q : Int) * (s : Int)) = (p : Int) := by rw [← Int.natCast_mul, hp, wrapN]; omega
      have e3 : IntKind.u64.wrap ((r : Int) - (p : Int)) = ((r % s : Nat) : Int) := by rw [show (r : Int) - (p : Int) = ((r % s : Nat) : Int) by omega, wrapN]; have := Nat.mod_le r s; omega
      obtain ⟨t, ht⟩ : ∃ t, r % s = t := ⟨_, rfl⟩
      rw [ht] at e3
      have HQ := Lib.hid (And.intro hq ht)
      have hm1 := emod_in (a := (q : Int) * (y : Int)) (m := (m : Int)) (by omega)
      clear hq hp hd ht
      go_wp2_with (first
        | (go_at_call 18; (with_reducible refine (rMul_any _ _ _ _ (by omega) (by omega) (by omega) (by omega) (by omega) (by omega)).mono ?_); rintro e w4 ⟨rfl, hd1⟩)
        | (go_at_call 40; (with_reducible refine (rless_any _ _ _ _ (by omega) (by omega) (by omega) (by omega) (by omega)).mono ?_); rintro e w5 ⟨rfl, hd2⟩))
      go_roundw
      case rel => exact ⟨s, r % s, y, less x (q * y % m) m, rfl, by rw [HQ.out.2], rfl, by rw [mul_cast, lessI_nat (Nat.le_of_lt (Nat.mod_lt _ h5))], hs, by have := Nat.mod_lt r hs0; omega, hy, less_lt hx, Lib.hid (by rw [← HG.out, HE.out, HQ.out.1]), (hk.trans hd1).trans hd2⟩
      case measure => have := Nat.mod_lt r hs0; have := HQ.out.2; simp [intOf]; omega
set_option maxHeartbeats 1000000 in
theorem rInverse_no0 (a : Int) (w : World) :
    Calls Tryd.prog 13 #[.int .u64 a, .int .u64 0] w fun e w' => e = .returned (.tuple #[.int .u64 0, .int .i64 11]) ∧ Dr w w' := by
  go_enter Tryd.func13, Tryd.ntmps13
  go_wp2_with fail
  go_ret2
  exact ⟨rfl, Dr.refl w⟩
set_option maxHeartbeats 1000000 in
theorem rInverse_no (a m : Nat) (w : World) (h2 : a ≤ 18446744073709551615) (h5 : 0 < m) (h6 : m ≤ 18446744073709551615) (hg : Nat.gcd m a ≠ 1) :
    Calls Tryd.prog 13 #[.int .u64 a, .int .u64 m] w fun e w' => e = .returned (.tuple #[.int .u64 0, .int .i64 11]) ∧ Dr w w' := by
  have d1 : ((m : Int) == 0) = false := by rw [beq_eq_false_iff_ne]; omega
  have am := emod_in (a := (a : Int)) (m := (m : Int)) (by omega)
  have hg' : Int.gcd ((a : Int) % (m : Int)) (m : Int) = Nat.gcd m a := by
    rw [← Int.natCast_emod, Int.gcd_natCast_natCast, Nat.gcd_comm, gcd_mod]
  generalize Nat.gcd m a = g at hg hg'
  have HGC : ∀ w', Calls Tryd.prog 39 #[.int .u64 ((a : Int) % (m : Int)), .int .u64 m] w' fun e w'' => e = .returned (.int .u64 g) ∧ Dr w' w'' := fun w' =>
    (rgcd_any _ _ w' am.1 (by omega) (by omega) (by omega)).mono fun e w'' ⟨he, hk⟩ => ⟨by rw [he, hg'], hk⟩
  have HC := Lib.hid HGC
  have dg : ((g : Int) != 1) = true := by rw [bne_iff_ne]; omega
  clear hg hg' am HGC
  go_enter Tryd.func13, Tryd.ntmps13
  go_wp2_with (go_at_call 39; (with_reducible refine (HC.out _).mono ?_); rintro e w0 ⟨rfl, hk0⟩)
  go_ret2
  exact ⟨rfl, hk0⟩
end Go.Proofs.YtifbcaiegalhbaaDoor
