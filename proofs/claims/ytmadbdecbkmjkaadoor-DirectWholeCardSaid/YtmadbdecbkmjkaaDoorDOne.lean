/-
  The walk of the reference's One; At and One together.
-/
import Derived.Test.YtmadbdecbkmjkaaDoorDRoom
namespace Go.Proofs.YtmadbdecbkmjkaaDoor
open Go Go.RowKit Go.Fl Go.Roots

theorem rOne_len (o : Option Addr) (m cap : Nat) (at' jump n k : Int) (w : World) (h : n < 1 ∨ 1024 < n) :
    Calls Tryd.prog 23 #[.slice o m cap, .int .i64 at', .int .i64 jump, .int .i64 n, .int .i64 k] w fun e w' => e = .returned (.tuple #[.complex .f64 0 0, .int .i64 7]) ∧ Kp w w' := by
  have key : decide (n < 1) = true ∨ (decide (n < 1) = false ∧ decide (1024 < n) = true) := by simp; omega
  clear h
  rcases key with d1 | ⟨d1, d2⟩
  all_goals
    go_enter Tryd.func23, Tryd.ntmps23
    go_wp2_with fail
    go_ret2
    exact ⟨rfl, Kp.refl _⟩
set_option maxRecDepth 100000 in
set_option maxHeartbeats 1000000 in
theorem rOne_range (o : Option Addr) (m cap : Nat) (at' jump : Int) (n : Nat) (k : Int) (w : World) (n1 : 1 ≤ n) (n2 : n ≤ 1024) (hm : m ≤ 17592186044416) (wj : jump ≤ 9223372036854775807) (h : offRange m at' jump n) :
    Calls Tryd.prog 23 #[.slice o m cap, .int .i64 at', .int .i64 jump, .int .i64 n, .int .i64 k] w fun e w' => e = .returned (.tuple #[.complex .f64 0 0, .int .i64 5]) ∧ Kp w w' := by
  have b1 : decide ((n : Int) < 1) = false := by simp; omega
  have b2 : decide ((1024 : Int) < n) = false := by simp; omega
  by_cases c1 : at' < 0
  · have d1 : decide (at' < 0) = true := by simpa using c1
    clear h c1
    go_enter Tryd.func23, Tryd.ntmps23
    go_wp2_with fail
    go_ret2
    exact ⟨rfl, Kp.refl _⟩
  have d1 : decide (at' < 0) = false := by simpa using c1
  by_cases c3 : jump < 1
  · have d3 : decide (jump < 1) = true := by simpa using c3
    clear h c1 c3
    go_enter Tryd.func23, Tryd.ntmps23
    go_wp2_with fail
    go_ret2
    exact ⟨rfl, Kp.refl _⟩
  have d3 : decide (jump < 1) = false := by simpa using c3
  by_cases c2 : (m : Int) ≤ at'
  · have d2 : decide ((m : Int) ≤ at') = true := by simpa using c2
    clear h c1 c3 c2
    go_enter Tryd.func23, Tryd.ntmps23
    go_wp2_with fail
    go_ret2
    exact ⟨rfl, Kp.refl _⟩
  have d2 : decide ((m : Int) ≤ at') = false := by simpa using c2
  obtain ⟨hn, hq⟩ : 1 < (n : Int) ∧ ((m : Int) - 1 - at') / ((n : Int) - 1) < jump := by
    rcases h with h | h | h | h
    · exact absurd h c1
    · exact absurd h c2
    · exact absurd h c3
    · exact h
  have d4 : decide ((1 : Int) < (n : Int)) = true := by simpa using hn
  obtain ⟨a, rfl⟩ := Int.eq_ofNat_of_zero_le (show 0 ≤ at' by omega)
  have d2' : ¬ m ≤ a := by omega
  obtain ⟨q, hq'⟩ : ∃ q : Nat, (m - 1 - a) / (n - 1) = q := ⟨_, rfl⟩
  have e4 : ((m : Int) - 1 - (a : Int)) / ((n : Int) - 1) = (q : Int) := by
    rw [← hq', Int.natCast_ediv]; congr 1 <;> omega
  have d5 : decide ((q : Int) < jump) = true := by rw [← e4]; simpa using hq
  have hm1 : (a : Int) ≤ (m : Int) - 1 := by omega
  clear h hq hq' c1 c2 c3
  go_enter Tryd.func23, Tryd.ntmps23
  go_wp2_with fail
  go_ret2
  exact ⟨rfl, Kp.refl _⟩
set_option maxRecDepth 100000 in
set_option maxHeartbeats 1000000 in
theorem rOne_any (g m cap at' jump n : Nat) (k : Int) (f : Nat → Nat × Nat) (w : World) (n1 : 1 ≤ n) (n2 : n ≤ 1024) (hm : m ≤ 17592186044416) (ha : at' < m) (hj : 1 ≤ jump) (hjm : jump ≤ 9223372036854775807) (hr : 1 < n → (jump : Int) ≤ ((m : Int) - 1 - at') / ((n : Int) - 1)) (hf : Has w g m f) :
    Calls Tryd.prog 23 #[.slice (some ⟨g, 0, none⟩) m cap, .int .i64 at', .int .i64 jump, .int .i64 n, .int .i64 k] w fun e w' => ∃ c s, e = .returned (.tuple #[.complex .f64 c s, .int .i64 0]) ∧ cn c = (dft (fun j => f (at' + j * jump)) n k).1 ∧ cn s = (dft (fun j => f (at' + j * jump)) n k).2 ∧ Kp w w' := by
  have b1 : decide ((n : Int) < 1) = false := by simp; omega
  have b2 : decide ((1024 : Int) < n) = false := by simp; omega
  have d1 : decide ((at' : Int) < 0) = false := by simp
  have d2 : decide ((m : Int) ≤ (at' : Int)) = false := by simp; omega
  have d2' : ¬ m ≤ at' := by omega
  have d3 : decide ((jump : Int) < 1) = false := by simp; omega
  have d3' : ¬ jump < 1 := by omega
  by_cases hn : 1 < n
  · have hrn := hr hn
    have hin := at_in ha hrn hn
    obtain ⟨q, hq⟩ : ∃ q : Nat, (m - 1 - at') / (n - 1) = q := ⟨_, rfl⟩
    have e4 : ((m : Int) - 1 - (at' : Int)) / ((n : Int) - 1) = (q : Int) := by
      rw [← hq, Int.natCast_ediv]; congr 1 <;> omega
    have d5 : decide ((q : Int) < (jump : Int)) = false := by rw [e4] at hrn; simp; omega
    have d5' : ¬ q < jump := by rw [e4] at hrn; omega
    have d4 : decide ((1 : Int) < (n : Int)) = true := by simp; omega
    have HA : Hid (∀ w', Kp w w' → Calls Tryd.prog 35 #[.slice (some ⟨g, 0, none⟩) m cap, .int .i64 at', .int .i64 jump, .int .i64 n, .int .i64 k] w' fun e w'' => ∃ c s, e = .returned (.complex .f64 c s) ∧ cn c = (dft (fun j => f (at' + j * jump)) n k).1 ∧ cn s = (dft (fun j => f (at' + j * jump)) n k).2 ∧ Kp w' w'') := Lib.hid fun w' h => rAt_any g m cap at' jump n k f w' n1 n2 hm hin (hf.kp h)
    have hm1 : (at' : Int) ≤ (m : Int) - 1 := by omega
    clear hr hrn hin hq hf
    go_enter Tryd.func23, Tryd.ntmps23
    go_wp2_with (go_at_call 35; (with_reducible refine (HA.out _ (Kp.refl _)).mono ?_); rintro e w1 ⟨c, s, rfl, hc, hs, hk⟩)
    go_ret2
    exact ⟨c, s, rfl, hc, hs, hk⟩
  · obtain rfl : n = 1 := by omega
    have HA : Hid (∀ w', Kp w w' → Calls Tryd.prog 35 #[.slice (some ⟨g, 0, none⟩) m cap, .int .i64 at', .int .i64 jump, .int .i64 1, .int .i64 k] w' fun e w'' => ∃ c s, e = .returned (.complex .f64 c s) ∧ cn c = (dft (fun j => f (at' + j * jump)) 1 k).1 ∧ cn s = (dft (fun j => f (at' + j * jump)) 1 k).2 ∧ Kp w' w'') := Lib.hid fun w' h => rAt_any g m cap at' jump 1 k f w' n1 n2 hm (fun j hj => by (have h0 : j = 0 := by omega); subst h0; omega) (hf.kp h)
    clear hr hf
    go_enter Tryd.func23, Tryd.ntmps23
    go_wp2_with (go_at_call 35; (with_reducible refine (HA.out _ (Kp.refl _)).mono ?_); rintro e w1 ⟨c, s, rfl, hc, hs, hk⟩)
    go_ret2
    exact ⟨c, s, rfl, hc, hs, hk⟩
theorem Num_nilk (w : World) : Calls Tryd.prog 16 #[.nilIface] w fun e w' => e = .returned (.int .i64 0) ∧ Kp w w' :=
  (Num_nil w).mono fun e w' ⟨h, hw⟩ => ⟨h, hw ▸ Kp.refl w⟩
/-- At and One answer alike at every place. -/
theorem at_pair (oG og : Option Addr) (m C cap : Nat) (at' jump n k : Int) (f : Nat → Nat × Nat) (E : Nat → Addr) (w : World) (hm : m ≤ 17592186044416) (hG : Rd w oG m f) (hg : Rd w og m f) (hE : Errs w E) (wj : jump ≤ 9223372036854775807) :
    ∃ (ev : Value) (q u v : Int) (U V : Nat), Hid (∀ w', Kp w w' → Calls Tryd.prog 22 #[.slice oG m C, .int .i64 at', .int .i64 jump, .int .i64 n, .int .i64 k] w' fun e w'' => ∃ c s, e = .returned (.tuple #[.complex .f64 c s, ev]) ∧ cn c = U ∧ cn s = V ∧ Kp w' w'') ∧
      Hid (∀ w', Kp w w' → Calls Tryd.prog 23 #[.slice og m cap, .int .i64 at', .int .i64 jump, .int .i64 n, .int .i64 k] w' fun e w'' => ∃ c s, e = .returned (.tuple #[.complex .f64 c s, .int .i64 q]) ∧ cn c = U ∧ cn s = V ∧ Kp w' w'') ∧
      Hid (∀ w', Kp w w' → Calls Tryd.prog 16 #[ev] w' fun e w'' => e = .returned (.int .i64 q) ∧ Kp w' w'') := by
  by_cases hn : n < 1 ∨ 1024 < n
  · exact ⟨.iface 96 (.pointer (some (E 6))), 7, 0, 0, cn 0, cn 0, Lib.hid fun w' h => (At_len oG m C at' jump n k (E 6) w' (hE.kp h).len hn).mono fun e w'' ⟨he, hk⟩ => ⟨0, 0, he, rfl, rfl, hk⟩,
      Lib.hid fun w' h => (rOne_len og m cap at' jump n k w' hn).mono fun e w'' ⟨he, hk⟩ => ⟨0, 0, he, rfl, rfl, hk⟩, Lib.hid fun w' h => Num_len E w' (hE.kp h)⟩
  obtain ⟨n, rfl⟩ := Int.eq_ofNat_of_zero_le (show 0 ≤ n by omega)
  by_cases ho : offRange m at' jump n
  · exact ⟨.iface 96 (.pointer (some (E 4))), 5, 0, 0, cn 0, cn 0, Lib.hid fun w' h => (At_range oG m C at' jump n k (E 4) w' (hE.kp h).range (by omega) (by omega) hm wj ho).mono fun e w'' ⟨he, hk⟩ => ⟨0, 0, he, rfl, rfl, hk⟩,
      Lib.hid fun w' h => (rOne_range og m cap at' jump n k w' (by omega) (by omega) hm wj ho).mono fun e w'' ⟨he, hk⟩ => ⟨0, 0, he, rfl, rfl, hk⟩, Lib.hid fun w' h => Num_range E w' (hE.kp h)⟩
  have h0 : ¬ at' < 0 := fun h => ho (Or.inl h)
  have h1 : ¬ (m : Int) ≤ at' := fun h => ho (Or.inr (Or.inl h))
  have h2 : ¬ jump < 1 := fun h => ho (Or.inr (Or.inr (Or.inl h)))
  have h3 : 1 < (n : Int) → jump ≤ ((m : Int) - 1 - at') / ((n : Int) - 1) := fun hh => by
    have : ¬ ((m : Int) - 1 - at') / ((n : Int) - 1) < jump := fun h => ho (Or.inr (Or.inr (Or.inr ⟨hh, h⟩)))
    omega
  obtain ⟨a, rfl⟩ := Int.eq_ofNat_of_zero_le (show 0 ≤ at' by omega)
  obtain ⟨j, rfl⟩ := Int.eq_ofNat_of_zero_le (show 0 ≤ jump by omega)
  obtain ⟨G, rfl, hG'⟩ := hG (by omega)
  obtain ⟨g, rfl, hg'⟩ := hg (by omega)
  exact ⟨.nilIface, 0, 0, 0, _, _, Lib.hid fun w' h => At_any G m C a j n k f w' (by omega) (by omega) hm (by omega) (by omega) (by omega) (fun hh => h3 (by omega)) (hG'.kp h),
    Lib.hid fun w' h => rOne_any g m cap a j n k f w' (by omega) (by omega) hm (by omega) (by omega) (by omega) (fun hh => h3 (by omega)) (hg'.kp h), Lib.hid fun w' _ => Num_nilk w'⟩
end Go.Proofs.YtmadbdecbkmjkaaDoor
