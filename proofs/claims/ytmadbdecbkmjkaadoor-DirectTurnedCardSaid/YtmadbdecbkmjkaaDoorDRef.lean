/-
  The walks of the reference of layer 10: prod, Plus, Less, Conj, At.
-/
import Derived.Test.YtmadbdecbkmjkaaDoorDAt
import Derived.StillTailTactics
namespace Go.Proofs.YtmadbdecbkmjkaaDoor
open Go Go.RowKit Go.Fl Go.Roots

theorem prod_any (j k n : Int) (w : World) (h1 : 1 ≤ n) (h2 : n ≤ 1024) :
    Calls Tryd.prog 49 #[.int .i64 j, .int .i64 k, .int .i64 n] w fun e w' => e = .returned (.int .i64 (((j % n) * (k % n)) % n)) ∧ w = w' := by
  have a0 := Int.emod_nonneg j (show n ≠ 0 by omega)
  have a1 := Int.emod_lt_of_pos j (show 0 < n by omega)
  have b0 := Int.emod_nonneg k (show n ≠ 0 by omega)
  have b1 := Int.emod_lt_of_pos k (show 0 < n by omega)
  have p0 : 0 ≤ (j % n) * (k % n) := Int.mul_nonneg a0 b0
  have p1 : (j % n) * (k % n) ≤ 1024 * 1024 := Int.mul_le_mul (by omega) (by omega) b0 (by omega)
  go_enter Tryd.func49, Tryd.ntmps49
  go_wp2_with (go_at_call 50; (refine (rMod_any _ _ _ h1 (by omega)).mono ?_); rintro e w1 ⟨rfl, rfl⟩)
  go_ret
  exact ⟨rfl, rfl⟩
set_option maxRecDepth 100000 in
set_option maxHeartbeats 400000 in
theorem Plus_any (a b c d : Nat) (w : World) :
    Calls Tryd.prog 39 #[.complex .f64 a b, .complex .f64 c d] w fun e w' => ∃ x y, e = .returned (.complex .f64 x y) ∧ cn x = (cadd (cn a, cn b) (cn c, cn d)).1 ∧ cn y = (cadd (cn a, cn b) (cn c, cn d)).2 ∧ Kp w w' := by
  go_enter Tryd.func39, Tryd.ntmps39
  go_wp2_with ((with_reducible apply wpList_fl .add rfl); exact rfl; exact rfl; intro r1 m1 hr1)
  go_ret
  exact ⟨_, _, rfl, by simp only [cadd, *, fl_add'], by simp only [cadd, *, fl_add'], (Kp.refl _).drewN _⟩
set_option maxRecDepth 100000 in
set_option maxHeartbeats 400000 in
theorem Less_any (a b c d : Nat) (w : World) :
    Calls Tryd.prog 40 #[.complex .f64 a b, .complex .f64 c d] w fun e w' => ∃ x y, e = .returned (.complex .f64 x y) ∧ cn x = (csub (cn a, cn b) (cn c, cn d)).1 ∧ cn y = (csub (cn a, cn b) (cn c, cn d)).2 ∧ Kp w w' := by
  go_enter Tryd.func40, Tryd.ntmps40
  go_wp2_with ((with_reducible apply wpList_fl .sub rfl); exact rfl; exact rfl; intro r1 m1 hr1)
  go_ret
  exact ⟨_, _, rfl, by simp only [csub, *, fl_sub'], by simp only [csub, *, fl_sub'], (Kp.refl _).drewN _⟩

set_option maxRecDepth 100000 in
set_option maxHeartbeats 400000 in
theorem rAt_any (g m cap at' jump n : Nat) (k : Int) (f : Nat → Nat × Nat) (w : World) (n1 : 1 ≤ n) (n2 : n ≤ 1024) (hm : m ≤ 17592186044416) (hl : ∀ j, j < n → at' + j * jump < m) (hf : Has w g m f) :
    Calls Tryd.prog 35 #[.slice (some ⟨g, 0, none⟩) m cap, .int .i64 at', .int .i64 jump, .int .i64 n, .int .i64 k] w fun e w' => ∃ c s, e = .returned (.complex .f64 c s) ∧ cn c = (dft (fun j => f (at' + j * jump)) n k).1 ∧ cn s = (dft (fun j => f (at' + j * jump)) n k).2 ∧ Kp w w' := by
  have h0 : at' < m := by have := hl 0 (by omega); omega
  obtain ⟨c0, s0, q0, hc0, hs0⟩ := hf at' h0
  go_enter Tryd.func35, Tryd.ntmps35
  go_wp2_with fail
  go_loopw [11, 12] (fun s i wr => ∃ (j c d : Nat), 1 ≤ j ∧ j ≤ n ∧ s = .complex .f64 c d ∧ i = .int .i64 j ∧ cn c = (acc (fun j => f (at' + j * jump)) n k (j - 1)).1 ∧ cn d = (acc (fun j => f (at' + j * jump)) n k (j - 1)).2 ∧ Kp w wr) (fun _ i _ => n - (intOf i).toNat)
  case atStart => exact ⟨1, c0, s0, by omega, by omega, rfl, rfl, by show _ = (f (at' + 0 * jump)).1; rw [Nat.zero_mul]; exact hc0, by show _ = (f (at' + 0 * jump)).2; rw [Nat.zero_mul]; exact hs0, Kp.refl _⟩
  case round =>
    clear hc0 hs0 q0
    obtain ⟨j, c, d, j1, jn, rfl, rfl, hc, hd, hkp⟩ := hrel
    by_cases hlt : j < n
    · have hlj := hl j hlt
      obtain ⟨c1, s1, q1, hc1, hs1⟩ := hf.kp hkp _ hlj
      obtain ⟨p, hp⟩ : ∃ p, j * jump = p := ⟨_, rfl⟩
      obtain ⟨r, hr⟩ : ∃ r, at' + p = r := ⟨_, rfl⟩
      have em : (j : Int) * (jump : Int) = (p : Int) := by rw [← hp, Int.natCast_mul]
      have ea : (at' : Int) + (p : Int) = (r : Int) := by omega
      rw [hp, hr] at q1 hlj hc1 hs1
      have hb : (r : Int) < (m : Int) := by omega
      have hb1 : (p : Int) < (m : Int) := by omega
      have ew1 : IntKind.i64.wrap (p : Int) = (p : Int) := IntWalk.i64_in _ (by clear em; omega)
      have ew2 : IntKind.i64.wrap (r : Int) = (r : Int) := IntWalk.i64_in _ (by clear em; omega)
      have HP := Lib.hid (And.intro hp hr)
      clear hp hr
      have hpr := (prod_any j k n wr.drew (by omega) (by omega)).mono fun e w' (h : e = _ ∧ wr.drew = w') => (And.intro h.1 h.2.symm : e = _ ∧ w' = wr.drew)
      have q2 : wr.drew.cell? ⟨g, r, none⟩ = some (.complex .f64 c1 s1) := q1
      go_wp2_with fail
      refine wp_region_still_tail 13 (by kernel_rfl) (by kernel_rfl) ?_
      simp only [List.take_succ_cons, List.take_zero, List.drop_succ_cons, List.drop_zero]
      repeat (first | still_step | still_call hpr)
      refine wpStill_nil ?_
      change wpList _ _ _ _ _ wr.drew
      have hkd : Kp w wr.drew := hkp.drew
      have ejn : ((j : Int) % (n : Int)) = (j : Int) := Int.emod_eq_of_lt (by omega) (by omega)
      have HT : Hid (term (fun j => f (at' + j * jump)) n k j = twist (f r) n ((((j : Int) % n) * (k % n)) % n)) := Lib.hid (by rw [ejn, ← HP.out.2, ← HP.out.1]; rfl)
      clear hpr q1 q2 em ea ew1 ew2 ejn
      generalize wr.drew = w2 at *
      go_wp2_with (first
        | (go_at_call 41; (refine (rTwist_any _ _ _ _ _ (by omega) (by omega)).mono ?_); rintro e w3 ⟨x, y, rfl, hx, hy, hk3⟩)
        | (go_at_call 39; (refine (Plus_any _ _ _ _ _).mono ?_); rintro e w4 ⟨x2, y2, rfl, hx2, hy2, hk4⟩))
      go_roundw
      case rel =>
        refine ⟨j + 1, _, _, by omega, by omega, rfl, by go_num, ?_, ?_, (hkd.trans hk3).trans hk4⟩
        · rw [Nat.add_sub_cancel, acc_step (fun j => f (at' + j * jump)) n k j j1, HT.out, hx2, hc, hd, hx, hy, hc1, hs1]
        · rw [Nat.add_sub_cancel, acc_step (fun j => f (at' + j * jump)) n k j j1, HT.out, hy2, hc, hd, hx, hy, hc1, hs1]
      case measure => simp [intOf]; omega
    · obtain rfl : j = n := by omega
      go_wp2_with fail
      go_ret
      exact ⟨c, d, rfl, hc, hd, hkp⟩
end Go.Proofs.YtmadbdecbkmjkaaDoor
