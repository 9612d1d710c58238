/-
  The walk of WindowSymmetry.
-/
import Derived.Test.YtmndkbebcjpkcaaDoorWMakes
import Derived.Test.YtmndkbebcjpkcaaDoorRFlip
namespace Go.Proofs.YtmndkbebcjpkcaaDoor
open Go Go.RowKit Go.Fl Go.Roots

theorem wel_le (kind n k : Int) (h0 : 0 ≤ kind) (h3 : kind ≤ 3) (n1 : 1 ≤ n) (n2 : n ≤ 4096) (k0 : 0 ≤ k) (k1 : k < n) : wel kind n k ≤ ONE := by
  have hu := unit_pair n k n1 (by omega)
  obtain rfl | rfl | rfl | rfl : kind = 0 ∨ kind = 1 ∨ kind = 2 ∨ kind = 3 := by omega
  · exact Nat.le_refl _
  · exact lerp hu.1 (Nat.le_refl _) (by decide) add_hann
  · exact lerp hu.1 (by decide) (by decide) add_hamming
  · exact sin_pos (4 * n) (2 * k + 1) (by omega) (by omega) (by omega) (by omega)
theorem wel_flip (kind n k : Int) (h0 : 1 ≤ kind) (h3 : kind ≤ 2) (n1 : 1 ≤ n) (n2 : n ≤ 4096) : wel kind n k = wel kind n (n - k) := by
  have := cos_flip n k n1 (by omega)
  obtain rfl | rfl : kind = 1 ∨ kind = 2 := by omega
  · show sub _ (mul _ _) = sub _ (mul _ _); rw [this]
  · show sub _ (mul _ _) = sub _ (mul _ _); rw [this]
theorem wel_sine (n k : Int) (n1 : 1 ≤ n) (n2 : n ≤ 4096) : wel 3 n k = wel 3 n (n - 1 - k) := (sin_window n k n1 (by omega)).symm

set_option maxRecDepth 100000 in
set_option maxHeartbeats 1000000 in
theorem sym_0 (n : Nat) (w : World) (m1 : 1 ≤ n) (m2 : n ≤ 4096) :
    Calls Tryd.prog 4 #[.int .i64 0, .int .i64 n] w fun e w' => e = .returned (.bool true) ∧ Kp w w' := by
  have e0 := cn_0
  have e1 := cn_one
  go_enter Tryd.func4, Tryd.ntmps4
  go_wp2_with (go_at_call 5; (with_reducible refine (fixed_any _).mono ?_); rintro e w2 ⟨rfl, hk2⟩)
  refine (Window_any 0 n _ (by omega) (by omega) m1 m2).mono ?_
  rintro e w3 ⟨ga, xa, rfl, ha, pa, hk3⟩
  go_wp2_with fail
  go_loopw [7, 37] (fun _ c wr => ∃ (k : Nat), k ≤ n ∧ c = .int .i64 k ∧ Kp w3 wr) (fun _ c _ => n - (intOf c).toNat)
  case atStart => exact ⟨0, by omega, rfl, Kp.refl _⟩
  case round =>
    obtain ⟨k, hk, rfl, hkp⟩ := hrel
    by_cases hlt : k < n
    · obtain ⟨c1, hx1, hc1⟩ := pa k hlt
      have q1 := (hkp.owns ha).cellAt k (by have := ha.1; omega)
      rw [hx1] at q1
      have hbt := between (wel_le 0 n k (by omega) (by omega) (by omega) (by omega) (by omega) (by omega))
      have t1 := hbt.2.1
      have t2 := hbt.2.2
      replace hc1 : cn c1 = wel 0 n k := hc1
      rw [← hc1] at t1 t2
      clear hx1 hc1 hbt
      go_wp2_with fail
      go_quiet (fail)
      go_wp2_with fail
      go_quiet (fail)
      go_wp2_with fail
      go_roundw
      case rel => exact ⟨k + 1, by omega, by go_num, by (repeat (first | exact Kp.refl _ | refine Kp.drewN ?_ _ | refine Kp.trans ?_ (by assumption)))⟩
      case measure => simp [intOf]; omega
    · obtain rfl : k = n := by omega
      go_wp2_with fail
      go_ret
      exact ⟨rfl, by (repeat (first | exact Kp.refl _ | refine Kp.drewN ?_ _ | refine Kp.trans ?_ (by assumption)))⟩
set_option maxRecDepth 100000 in
set_option maxHeartbeats 1000000 in
theorem sym_1 (n : Nat) (w : World) (m1 : 1 ≤ n) (m2 : n ≤ 4096) :
    Calls Tryd.prog 4 #[.int .i64 1, .int .i64 n] w fun e w' => e = .returned (.bool true) ∧ Kp w w' := by
  have e0 := cn_0
  have e1 := cn_one
  go_enter Tryd.func4, Tryd.ntmps4
  go_wp2_with (go_at_call 5; (with_reducible refine (fixed_any _).mono ?_); rintro e w2 ⟨rfl, hk2⟩)
  refine (Window_any 1 n _ (by omega) (by omega) m1 m2).mono ?_
  rintro e w3 ⟨ga, xa, rfl, ha, pa, hk3⟩
  go_wp2_with fail
  go_loopw [7, 37] (fun _ c wr => ∃ (k : Nat), k ≤ n ∧ c = .int .i64 k ∧ Kp w3 wr) (fun _ c _ => n - (intOf c).toNat)
  case atStart => exact ⟨0, by omega, rfl, Kp.refl _⟩
  case round =>
    obtain ⟨k, hk, rfl, hkp⟩ := hrel
    by_cases hlt : k < n
    · obtain ⟨c1, hx1, hc1⟩ := pa k hlt
      have q1 := (hkp.owns ha).cellAt k (by have := ha.1; omega)
      rw [hx1] at q1
      have hbt := between (wel_le 1 n k (by omega) (by omega) (by omega) (by omega) (by omega) (by omega))
      have t1 := hbt.2.1
      have t2 := hbt.2.2
      replace hc1 : cn c1 = wel 1 n k := hc1
      rw [← hc1] at t1 t2
      by_cases hk0 : k = 0
      · subst hk0
        clear hx1 hc1 hbt
        go_wp2_with fail
        go_quiet (fail)
        go_wp2_with fail
        go_quiet (fail)
        go_wp2_with fail
        go_roundw
        case rel => exact ⟨1, by omega, by go_num, by (repeat (first | exact Kp.refl _ | refine Kp.drewN ?_ _ | refine Kp.trans ?_ (by assumption)))⟩
        case measure => simp [intOf]; omega
      have kpn : 0 < k := by omega
      have kpi : (0 : Int) < (k : Int) := by omega
      obtain ⟨m, em, hm⟩ : ∃ m : Nat, (n : Int) - (k : Int) = m ∧ m < n := ⟨n - k, by omega, by omega⟩
      obtain ⟨c2, hx2, hc2⟩ := pa m hm
      have q2 := (hkp.owns ha).cellAt m (by have := ha.1; omega)
      rw [hx2] at q2
      replace hc2 : cn c2 = wel 1 n m := hc2
      have EC : Hid (cn c1 = cn c2) := Lib.hid (by rw [hc1, hc2, ← em]; exact wel_flip 1 n k (by omega) (by omega) (by omega) (by omega))
      have hm1 : (m : Int) < (n : Int) := by omega
      have hm2 : (0 : Int) ≤ (m : Int) := by omega
      clear hx1 hx2 hc1 hc2 hbt
      go_wp2_with fail
      go_quiet ((go_at_call 12; exact Calls.quiet_of_same ((Same_yes _ _ _ EC.out).mono fun e w' ⟨he, hw⟩ => ⟨he, hw.symm⟩)))
      go_wp2_with fail
      go_quiet (fail)
      go_wp2_with fail
      go_roundw
      case rel => exact ⟨k + 1, by omega, by go_num, by (repeat (first | exact Kp.refl _ | refine Kp.drewN ?_ _ | refine Kp.trans ?_ (by assumption)))⟩
      case measure => simp [intOf]; omega
    · obtain rfl : k = n := by omega
      go_wp2_with fail
      go_ret
      exact ⟨rfl, by (repeat (first | exact Kp.refl _ | refine Kp.drewN ?_ _ | refine Kp.trans ?_ (by assumption)))⟩
set_option maxRecDepth 100000 in
set_option maxHeartbeats 1000000 in
theorem sym_2 (n : Nat) (w : World) (m1 : 1 ≤ n) (m2 : n ≤ 4096) :
    Calls Tryd.prog 4 #[.int .i64 2, .int .i64 n] w fun e w' => e = .returned (.bool true) ∧ Kp w w' := by
  have e0 := cn_0
  have e1 := cn_one
  go_enter Tryd.func4, Tryd.ntmps4
  go_wp2_with (go_at_call 5; (with_reducible refine (fixed_any _).mono ?_); rintro e w2 ⟨rfl, hk2⟩)
  refine (Window_any 2 n _ (by omega) (by omega) m1 m2).mono ?_
  rintro e w3 ⟨ga, xa, rfl, ha, pa, hk3⟩
  go_wp2_with fail
  go_loopw [7, 37] (fun _ c wr => ∃ (k : Nat), k ≤ n ∧ c = .int .i64 k ∧ Kp w3 wr) (fun _ c _ => n - (intOf c).toNat)
  case atStart => exact ⟨0, by omega, rfl, Kp.refl _⟩
  case round =>
    obtain ⟨k, hk, rfl, hkp⟩ := hrel
    by_cases hlt : k < n
    · obtain ⟨c1, hx1, hc1⟩ := pa k hlt
      have q1 := (hkp.owns ha).cellAt k (by have := ha.1; omega)
      rw [hx1] at q1
      have hbt := between (wel_le 2 n k (by omega) (by omega) (by omega) (by omega) (by omega) (by omega))
      have t1 := hbt.2.1
      have t2 := hbt.2.2
      replace hc1 : cn c1 = wel 2 n k := hc1
      rw [← hc1] at t1 t2
      by_cases hk0 : k = 0
      · subst hk0
        clear hx1 hc1 hbt
        go_wp2_with fail
        go_quiet (fail)
        go_wp2_with fail
        go_quiet (fail)
        go_wp2_with fail
        go_roundw
        case rel => exact ⟨1, by omega, by go_num, by (repeat (first | exact Kp.refl _ | refine Kp.drewN ?_ _ | refine Kp.trans ?_ (by assumption)))⟩
        case measure => simp [intOf]; omega
      have kpn : 0 < k := by omega
      have kpi : (0 : Int) < (k : Int) := by omega
      obtain ⟨m, em, hm⟩ : ∃ m : Nat, (n : Int) - (k : Int) = m ∧ m < n := ⟨n - k, by omega, by omega⟩
      obtain ⟨c2, hx2, hc2⟩ := pa m hm
      have q2 := (hkp.owns ha).cellAt m (by have := ha.1; omega)
      rw [hx2] at q2
      replace hc2 : cn c2 = wel 2 n m := hc2
      have EC : Hid (cn c1 = cn c2) := Lib.hid (by rw [hc1, hc2, ← em]; exact wel_flip 2 n k (by omega) (by omega) (by omega) (by omega))
      have hm1 : (m : Int) < (n : Int) := by omega
      have hm2 : (0 : Int) ≤ (m : Int) := by omega
      clear hx1 hx2 hc1 hc2 hbt
      go_wp2_with fail
      go_quiet ((go_at_call 12; exact Calls.quiet_of_same ((Same_yes _ _ _ EC.out).mono fun e w' ⟨he, hw⟩ => ⟨he, hw.symm⟩)))
      go_wp2_with fail
      go_quiet (fail)
      go_wp2_with fail
      go_roundw
      case rel => exact ⟨k + 1, by omega, by go_num, by (repeat (first | exact Kp.refl _ | refine Kp.drewN ?_ _ | refine Kp.trans ?_ (by assumption)))⟩
      case measure => simp [intOf]; omega
    · obtain rfl : k = n := by omega
      go_wp2_with fail
      go_ret
      exact ⟨rfl, by (repeat (first | exact Kp.refl _ | refine Kp.drewN ?_ _ | refine Kp.trans ?_ (by assumption)))⟩
set_option maxRecDepth 100000 in
set_option maxHeartbeats 1000000 in
theorem sym_3 (n : Nat) (w : World) (m1 : 1 ≤ n) (m2 : n ≤ 4096) :
    Calls Tryd.prog 4 #[.int .i64 3, .int .i64 n] w fun e w' => e = .returned (.bool true) ∧ Kp w w' := by
  have e0 := cn_0
  have e1 := cn_one
  go_enter Tryd.func4, Tryd.ntmps4
  go_wp2_with (go_at_call 5; (with_reducible refine (fixed_any _).mono ?_); rintro e w2 ⟨rfl, hk2⟩)
  refine (Window_any 3 n _ (by omega) (by omega) m1 m2).mono ?_
  rintro e w3 ⟨ga, xa, rfl, ha, pa, hk3⟩
  go_wp2_with fail
  go_loopw [7, 37] (fun _ c wr => ∃ (k : Nat), k ≤ n ∧ c = .int .i64 k ∧ Kp w3 wr) (fun _ c _ => n - (intOf c).toNat)
  case atStart => exact ⟨0, by omega, rfl, Kp.refl _⟩
  case round =>
    obtain ⟨k, hk, rfl, hkp⟩ := hrel
    by_cases hlt : k < n
    · obtain ⟨c1, hx1, hc1⟩ := pa k hlt
      have q1 := (hkp.owns ha).cellAt k (by have := ha.1; omega)
      rw [hx1] at q1
      have hbt := between (wel_le 3 n k (by omega) (by omega) (by omega) (by omega) (by omega) (by omega))
      have t1 := hbt.2.1
      have t2 := hbt.2.2
      replace hc1 : cn c1 = wel 3 n k := hc1
      rw [← hc1] at t1 t2
      obtain ⟨m, em, hm⟩ : ∃ m : Nat, (n : Int) - 1 - (k : Int) = m ∧ m < n := ⟨n - 1 - k, by omega, by omega⟩
      have ew : IntKind.i64.wrap (IntKind.i64.wrap ((n : Int) - 1) - (k : Int)) = (m : Int) := by
        rw [IntWalk.i64_in ((n : Int) - 1) (by omega), IntWalk.i64_in _ (by omega), em]
      obtain ⟨c2, hx2, hc2⟩ := pa m hm
      have q2 := (hkp.owns ha).cellAt m (by have := ha.1; omega)
      rw [hx2] at q2
      replace hc2 : cn c2 = wel 3 n m := hc2
      have EC : Hid (cn c1 = cn c2) := Lib.hid (by rw [hc1, hc2, ← em]; exact wel_sine n k (by omega) (by omega))
      have hm1 : (m : Int) < (n : Int) := by omega
      have hm2 : (0 : Int) ≤ (m : Int) := by omega
      clear hx1 hx2 hc1 hc2 hbt
      go_wp2_with fail
      go_quiet (fail)
      have q1' : (wr.drewN nq).cell? ⟨ga, k, none⟩ = some (.float .f64 c1) := q1
      have q2' : (wr.drewN nq).cell? ⟨ga, m, none⟩ = some (.float .f64 c2) := q2
      have hkp' : Kp w3 (wr.drewN nq) := hkp.drewN nq
      clear q1 q2 hkp
      generalize wr.drewN nq = wq at *
      go_wp2_with fail
      go_quiet ((go_at_call 12; exact Calls.quiet_of_same ((Same_yes _ _ _ EC.out).mono fun e w' ⟨he, hw⟩ => ⟨he, hw.symm⟩)))
      go_wp2_with fail
      go_roundw
      case rel => exact ⟨k + 1, by omega, by go_num, by (repeat (first | exact Kp.refl _ | refine Kp.drewN ?_ _ | refine Kp.trans ?_ (by assumption)))⟩
      case measure => simp [intOf]; omega
    · obtain rfl : k = n := by omega
      go_wp2_with fail
      go_ret
      exact ⟨rfl, by (repeat (first | exact Kp.refl _ | refine Kp.drewN ?_ _ | refine Kp.trans ?_ (by assumption)))⟩

set_option maxRecDepth 100000 in
set_option maxHeartbeats 1000000 in
theorem walk_WindowSymmetry (kind : Int) (_ : (Lit.int .i64 kind).wf = true) (n : Int) (_ : (Lit.int .i64 n).wf = true) (E : Nat → Addr) (w : World) (hE : Errs w E) :
    Calls Tryd.prog 4 #[.int .i64 kind, .int .i64 n] w fun e w' => e = .returned (.bool true) ∧ Kp w w' := by
  by_cases hk : kind < 0 ∨ 3 < kind
  · have HK := Lib.hid hk
    clear hk
    go_enter Tryd.func4, Tryd.ntmps4
    go_wp2_with (first
      | (go_at_call 5; (with_reducible refine (fixed_any _).mono ?_); rintro e w2 ⟨rfl, hk2⟩; have hE := hE.kp hk2)
      | (go_at_call 6; (with_reducible refine (Window_mode _ _ (E 16) _ hE.mode HK.out).mono ?_); rintro e w2 ⟨rfl, hk2⟩; have hE := hE.kp hk2)
      | (go_at_call 8; (with_reducible refine (Num_mode E _ hE).mono ?_); rintro e w2 ⟨rfl, hk2⟩; have hE := hE.kp hk2))
    all_goals go_ret
    all_goals exact ⟨rfl, by (repeat (first | exact Kp.refl _ | refine Kp.drewN ?_ _ | refine Kp.trans ?_ (by assumption)))⟩
  have k0 : 0 ≤ kind := by omega
  have k3 : kind ≤ 3 := by omega
  clear hk
  by_cases hn : n < 1 ∨ 4096 < n
  · have HN := Lib.hid hn
    clear hn
    go_enter Tryd.func4, Tryd.ntmps4
    go_wp2_with (first
      | (go_at_call 5; (with_reducible refine (fixed_any _).mono ?_); rintro e w2 ⟨rfl, hk2⟩; have hE := hE.kp hk2)
      | (go_at_call 6; (with_reducible refine (Window_len _ _ (E 6) _ hE.len k0 k3 HN.out).mono ?_); rintro e w2 ⟨rfl, hk2⟩; have hE := hE.kp hk2)
      | (go_at_call 8; (with_reducible refine (Num_len E _ hE).mono ?_); rintro e w2 ⟨rfl, hk2⟩; have hE := hE.kp hk2))
    all_goals go_ret
    all_goals exact ⟨rfl, by (repeat (first | exact Kp.refl _ | refine Kp.drewN ?_ _ | refine Kp.trans ?_ (by assumption)))⟩
  obtain ⟨m, rfl⟩ := Int.eq_ofNat_of_zero_le (show 0 ≤ n by omega)
  obtain rfl | rfl | rfl | rfl : kind = 0 ∨ kind = 1 ∨ kind = 2 ∨ kind = 3 := by omega
  · exact sym_0 m w (by omega) (by omega)
  · exact sym_1 m w (by omega) (by omega)
  · exact sym_2 m w (by omega) (by omega)
  · exact sym_3 m w (by omega) (by omega)
end Go.Proofs.YtmndkbebcjpkcaaDoor
