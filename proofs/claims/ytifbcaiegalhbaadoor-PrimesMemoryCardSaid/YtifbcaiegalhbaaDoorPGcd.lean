/-
  The walks of size, Gcd, less, and of the references' own.
-/
import Derived.Test.YtifbcaiegalhbaaDoorErr
import Derived.Test.YtifbcaiegalhbaaDoorPMod
namespace Go.Proofs.YtifbcaiegalhbaaDoor
open Go Go.RowKit Go.Fl

/-- A quiet call: draws at most. -/
def Dr (w w' : World) : Prop := ∃ n, w' = w.drewN n
theorem Dr.refl (w : World) : Dr w w := ⟨0, rfl⟩
theorem Dr.drewN {a b : World} (h : Dr a b) (n : Nat) : Dr a (b.drewN n) := by
  obtain ⟨m, rfl⟩ := h; exact ⟨m + n, by rw [World.drewN_drewN]⟩
theorem Dr.trans {a b c : World} (h : Dr a b) (k : Dr b c) : Dr a c := by
  obtain ⟨m, rfl⟩ := k; exact h.drewN m
theorem Dr.kp {a b : World} (h : Dr a b) : Kp a b := by
  obtain ⟨m, rfl⟩ := h; exact (Kp.refl a).drewN m
theorem Dr.quiet {P : Program} {f : FuncId} {args : Array Value} {w : World} {n : Nat} {v : Value}
    (h : Calls P f args (w.drewN n) fun e w' => e = .returned v ∧ Dr (w.drewN n) w') : Calls P f args (w.drewN n) fun e w'' => e = .returned v ∧ ∃ m, w'' = w.drewN m :=
  Calls.quiet_of (h.mono fun _ _ ⟨he, m, hm⟩ => ⟨he, m, hm⟩)

theorem ret_u {a b : Int} (h : a = b) : Ending.returned (.int .u64 a) = .returned (.int .u64 b) := by rw [h]
theorem ret_i {a b : Int} (h : a = b) : Ending.returned (.int .i64 a) = .returned (.int .i64 b) := by rw [h]
theorem ret_b {a b : Bool} (h : a = b) : Ending.returned (.bool a) = .returned (.bool b) := by rw [h]

theorem psize_any (a : Int) (w : World) (h1 : -9223372036854775808 ≤ a) (h2 : a ≤ 9223372036854775807) :
    Calls Tryd.prog 42 #[.int .i64 a] w fun e w' => e = .returned (.int .u64 (a.natAbs : Int)) ∧ w = w' := by
  by_cases h : a < 0
  · go_enter Tryd.func42, Tryd.ntmps42
    go_wp2_with fail
    go_ret
    exact ⟨ret_u (by first | omega | (rw [IntKind.wrap_u64, IntKind.wrap_u64]; omega)), rfl⟩
  · go_enter Tryd.func42, Tryd.ntmps42
    go_wp2_with fail
    go_ret
    exact ⟨ret_u (by first | omega | (rw [IntKind.wrap_u64, IntKind.wrap_u64]; omega)), rfl⟩
theorem rsize_any (a : Int) (w : World) (h1 : -9223372036854775808 ≤ a) (h2 : a ≤ 9223372036854775807) :
    Calls Tryd.prog 45 #[.int .i64 a] w fun e w' => e = .returned (.int .u64 (a.natAbs : Int)) ∧ w = w' := by
  by_cases h : a < 0
  · go_enter Tryd.func45, Tryd.ntmps45
    go_wp2_with fail
    go_ret
    exact ⟨ret_u (by first | omega | (rw [IntKind.wrap_u64, IntKind.wrap_u64]; omega)), rfl⟩
  · go_enter Tryd.func45, Tryd.ntmps45
    go_wp2_with fail
    go_ret
    exact ⟨ret_u (by first | omega | (rw [IntKind.wrap_u64, IntKind.wrap_u64]; omega)), rfl⟩

/-- Gcd's number. -/
def gcdI (a b : Int) : Int := wrap64 ((Int.gcd a b : Nat) : Int)
set_option maxHeartbeats 400000 in
theorem Gcd_any (a b : Int) (w : World) (h1 : -9223372036854775808 ≤ a) (h2 : a ≤ 9223372036854775807) (h3 : -9223372036854775808 ≤ b) (h4 : b ≤ 9223372036854775807) :
    Calls Tryd.prog 21 #[.int .i64 a, .int .i64 b] w fun e w' => e = .returned (.int .i64 (gcdI a b)) ∧ Dr w w' := by
  go_enter Tryd.func21, Tryd.ntmps21
  go_wp2_with (go_at_call 42; (with_reducible refine (psize_any _ _ (by omega) (by omega)).mono ?_); rintro e w1 ⟨rfl, rfl⟩)
  go_loopw [5, 6] (fun x y wr => ∃ p q : Nat, x = .int .u64 p ∧ y = .int .u64 q ∧ p ≤ 18446744073709551615 ∧ q ≤ 18446744073709551615 ∧ Nat.gcd p q = Int.gcd a b ∧ Dr w wr) (fun _ y _ => (intOf y).toNat)
  case atStart => exact ⟨a.natAbs, b.natAbs, rfl, rfl, by omega, by omega, rfl, Dr.refl w⟩
  case round =>
    obtain ⟨p, q, rfl, rfl, hp, hq, hg, hk⟩ := hrel
    have HG := Lib.hid hg
    clear hg
    by_cases h0 : q = 0
    · subst h0
      go_wp2_with fail
      go_ret
      refine ⟨ret_i ?_, hk⟩
      unfold gcdI
      rw [← HG.out, Nat.gcd_zero_right]
    · have h0' : 0 < q := by omega
      have d0 : ((q : Int) != 0) = true := by rw [bne_iff_ne]; omega
      go_wp2_with fail
      go_quiet (fail)
      go_wp2_with fail
      go_roundw
      case rel => exact ⟨q, p % q, rfl, rfl, hq, by have := Nat.mod_lt p h0'; omega, by rw [Nat.gcd_comm, ← Nat.gcd_rec, Nat.gcd_comm, HG.out], hk.drewN nq⟩
      case measure => have := Nat.mod_lt p h0'; simp [intOf]; omega
set_option maxHeartbeats 400000 in
theorem rgcd_any (a b : Int) (w : World) (h1 : 0 ≤ a) (h2 : a ≤ 18446744073709551615) (h3 : 0 ≤ b) (h4 : b ≤ 18446744073709551615) :
    Calls Tryd.prog 39 #[.int .u64 a, .int .u64 b] w fun e w' => e = .returned (.int .u64 (Int.gcd a b : Nat)) ∧ Dr w w' := by
  go_enter Tryd.func39, Tryd.ntmps39
  go_wp2_with fail
  go_loopw [0, 1, 5] (fun x y _ wr => ∃ p q : Nat, x = .int .u64 p ∧ y = .int .u64 q ∧ p ≤ 18446744073709551615 ∧ q ≤ 18446744073709551615 ∧ Nat.gcd p q = Int.gcd a b ∧ Dr w wr) (fun _ y _ _ => (intOf y).toNat)
  case atStart =>
    obtain ⟨a, rfl⟩ := Int.eq_ofNat_of_zero_le h1
    obtain ⟨b, rfl⟩ := Int.eq_ofNat_of_zero_le h3
    exact ⟨a, b, rfl, rfl, by omega, by omega, rfl, Dr.refl w⟩
  case round =>
    obtain ⟨p, q, rfl, rfl, hp, hq, hg, hk⟩ := hrel
    have HG := Lib.hid hg
    clear hg
    by_cases h0 : q = 0
    · subst h0
      go_wp2_with fail
      go_ret
      refine ⟨ret_u ?_, hk⟩
      rw [← HG.out, Nat.gcd_zero_right]
    · have h0' : 0 < q := by omega
      have d0 : ((q : Int) != 0) = true := by rw [bne_iff_ne]; omega
      go_wp2_with fail
      go_roundw
      case rel => exact ⟨q, p % q, rfl, rfl, hq, by have := Nat.mod_lt p h0'; omega, by rw [Nat.gcd_comm, ← Nat.gcd_rec, Nat.gcd_comm, HG.out], hk⟩
      case measure => have := Nat.mod_lt p h0'; simp [intOf]; omega
theorem rGcd_any (a b : Int) (w : World) (h1 : -9223372036854775808 ≤ a) (h2 : a ≤ 9223372036854775807) (h3 : -9223372036854775808 ≤ b) (h4 : b ≤ 9223372036854775807) :
    Calls Tryd.prog 31 #[.int .i64 a, .int .i64 b] w fun e w' => e = .returned (.int .i64 (gcdI a b)) ∧ Dr w w' := by
  go_enter Tryd.func31, Tryd.ntmps31
  go_wp2_with (first
    | (go_at_call 45; (with_reducible refine (rsize_any _ _ (by omega) (by omega)).mono ?_); rintro e w1 ⟨rfl, rfl⟩)
    | (go_at_call 39; (with_reducible refine (rgcd_any _ _ _ (by omega) (by omega) (by omega) (by omega)).mono ?_); rintro e w1 ⟨rfl, hk⟩))
  go_ret
  exact ⟨rfl, hk⟩

/-! ### less -/
def lessI (a b m : Int) : Int := if b ≤ a then a - b else m - (b - a)
theorem less_any (a b m : Int) (w : World) (h1 : 0 ≤ a) (h2 : a < m) (h3 : 0 ≤ b) (h4 : b < m) (h5 : m ≤ 18446744073709551615) :
    Calls Tryd.prog 38 #[.int .u64 a, .int .u64 b, .int .u64 m] w fun e w' => e = .returned (.int .u64 (lessI a b m)) ∧ Dr w w' := by
  by_cases h : b ≤ a
  · go_enter Tryd.func38, Tryd.ntmps38
    go_wp2_with fail
    go_ret
    exact ⟨ret_u (by unfold lessI; rw [if_pos h]), Dr.refl w⟩
  · go_enter Tryd.func38, Tryd.ntmps38
    go_wp2_with fail
    go_ret
    exact ⟨ret_u (by unfold lessI; rw [if_neg (by omega)]), Dr.refl w⟩
theorem rless_any (a b m : Int) (w : World) (h1 : 0 ≤ a) (h2 : a < m) (h3 : 0 ≤ b) (h4 : b < m) (h5 : m ≤ 18446744073709551615) :
    Calls Tryd.prog 40 #[.int .u64 a, .int .u64 b, .int .u64 m] w fun e w' => e = .returned (.int .u64 (lessI a b m)) ∧ Dr w w' := by
  by_cases h : b ≤ a
  · go_enter Tryd.func40, Tryd.ntmps40
    go_wp2_with fail
    go_ret
    exact ⟨ret_u (by unfold lessI; rw [if_pos h]), Dr.refl w⟩
  · go_enter Tryd.func40, Tryd.ntmps40
    go_wp2_with fail
    go_ret
    exact ⟨ret_u (by unfold lessI; rw [if_neg (by omega)]), Dr.refl w⟩
end Go.Proofs.YtifbcaiegalhbaaDoor
