/-
  The walk of layer 13's Zoom.
-/
import Derived.Test.YtnkcjbabfckdgaaDoorCList
import Derived.Test.YtnkcjbabfckdgaaDoorRTwist
namespace Go.Proofs.YtnkcjbabfckdgaaDoor
open Go Go.RowKit Go.Fl Go.Roots

theorem zoom_nums (from' : Int) (M k : Nat) (m1 : 1 ≤ M) : ∃ F K A : Nat, from' % (M : Int) = (F : Int) ∧ (k : Int) % (M : Int) = (K : Int) ∧ ((F : Int) + (K : Int)) % (M : Int) = (A : Int) ∧ F < M ∧ K < M ∧ A < M ∧ (A : Int) % (M : Int) = (from' + k) % (M : Int) := by
  obtain ⟨F, hF⟩ := Int.eq_ofNat_of_zero_le (Int.emod_nonneg from' (show (M : Int) ≠ 0 by omega))
  have hF1 := Int.emod_lt_of_pos from' (show 0 < (M : Int) by omega)
  have hK : (k : Int) % (M : Int) = ((k % M : Nat) : Int) := (Int.natCast_emod ..).symm
  have hK1 := Nat.mod_lt k (show 0 < M by omega)
  have hA : ((F : Int) + ((k % M : Nat) : Int)) % (M : Int) = (((F + k % M) % M : Nat) : Int) := by rw [← Int.natCast_add, ← Int.natCast_emod]
  have hA1 := Nat.mod_lt (F + k % M) (show 0 < M by omega)
  refine ⟨F, k % M, (F + k % M) % M, hF, hK, hA, by omega, hK1, hA1, ?_⟩
  rw [← hA, ← hK, ← hF, Int.emod_emod_of_dvd _ (Int.dvd_refl _), ← Int.add_emod]
theorem zoom_idx (j A M : Nat) (hA : A < M) (hj : j ≤ 1048576) (hM : M ≤ 4194304) : ∃ R : Nat, ((j : Int) * (A : Int)) % (M : Int) = (R : Int) ∧ R < M ∧ 0 ≤ (j : Int) * (A : Int) ∧ (j : Int) * (A : Int) ≤ 4398046511104 := by
  have h := Nat.mul_le_mul hj (show A ≤ 4194304 by omega)
  refine ⟨j * A % M, by rw [← Int.natCast_mul, ← Int.natCast_emod], Nat.mod_lt _ (by omega), Int.mul_nonneg (by omega) (by omega), ?_⟩
  rw [← Int.natCast_mul]; omega
theorem zoom_len {n count : Nat} (n1 : 1 ≤ n) (hc : (count : Int) ≤ 1048576 / (n : Int)) : count * n ≤ 1048576 := by
  have h1 : ((count * n : Nat) : Int) ≤ 1048576 := by
    rw [Int.natCast_mul]
    exact Int.le_trans (Int.mul_le_mul_of_nonneg_right hc (by omega)) (Int.ediv_mul_le _ (by omega))
  omega
set_option maxRecDepth 100000 in
set_option maxHeartbeats 2000000 in
theorem CZoom_any (g n cap M : Nat) (from' : Int) (count : Nat) (f : Nat → Nat × Nat) (w : World) (n1 : 1 ≤ n) (hn : n ≤ 8796093022208) (m1 : 1 ≤ M) (m2 : M ≤ 4194304) (hc : (count : Int) ≤ 1048576 / (n : Int)) (hf : Has w g n f) :
    Calls Tryd.prog 24 #[.slice (some ⟨g, 0, none⟩) n cap, .int .i64 M, .int .i64 from', .int .i64 count] w fun e w' => ∃ v, e = .returned (.tuple #[v, .nilIface]) ∧ CO w' w.heap.size v count (zoom f n M from') ∧ Kp w w' := by
  obtain ⟨i0, hi, hz0, hz1, hz2⟩ := info_parts info_c
  have hcn := zoom_len n1 hc
  have d0 : ((n : Int) == 0) = false := by rw [beq_eq_false_iff_ne]; omega
  have d1 : decide ((M : Int) < 1) = false := by simp; omega
  have d2 : decide ((4194304 : Int) < M) = false := by simp; omega
  obtain ⟨Q, hQ⟩ : ∃ Q : Nat, 1048576 / (n : Int) = (Q : Int) := Int.eq_ofNat_of_zero_le (Int.ediv_nonneg (by omega) (by omega))
  have d3 : decide ((Q : Int) < (count : Int)) = false := by simp; omega
  have d3' : decide (Q < count) = false := by simp; omega
  have d4 : decide ((count : Int) < 0) = false := by simp
  have hQb : Q ≤ 1048576 := by
    have := Int.ediv_le_self (a := 1048576) (n : Int) (by omega)
    omega
  have hQw : IntKind.i64.wrap (Q : Int) = (Q : Int) := IntWalk.i64_in _ (by omega)
  have hcb : count ≤ 1048576 := by
    have := Nat.mul_le_mul (Nat.le_refl count) n1
    omega
  have HF := Lib.hid hf
  have HCN := Lib.hid hcn
  clear hf hc hcn
  go_enter Tryd.func24, Tryd.ntmps24
  go_wp2_with fail
  clear hQ d0
  have hown0 := World.ownsRow_nil w w.heap.size 23 1
  go_loopw [10, 41] (fun v i wr => ∃ (k : Nat) (xs : List Value), k ≤ count ∧ i = .int .i64 k ∧ wr.ownsRow w.heap.size 23 1 v k xs ∧ PartC (zoom f n M from') xs k ∧ Kp w wr) (fun _ i _ => count - (intOf i).toNat)
  case atStart => exact ⟨0, [], by omega, rfl, hown0, fun j hj => absurd hj (by omega), Kp.refl _⟩
  case round =>
    clear hown0
    obtain ⟨k, xs, hk, rfl, hown, hp, hkp⟩ := hrel
    have hlen := hown.1
    by_cases hlt : k < count
    · have hnb : n ≤ 1048576 := by
        have := Nat.mul_le_mul (show 1 ≤ count by omega) (Nat.le_refl n)
        have := HCN.out
        omega
      obtain ⟨F, K, A, hF, hK, hA, hFM, hKM, hAM, hAE⟩ := zoom_nums from' M k m1
      have M1 : Hid (∀ w, Calls Tryd.prog 27 #[.int .i64 from', .int .i64 M] w fun e w' => e = .returned (.int .i64 F) ∧ w = w') := Lib.hid fun w => by have := cmod_any from' M w (by omega) (by omega); rw [hF] at this; exact this
      have M2 : Hid (∀ w, Calls Tryd.prog 27 #[.int .i64 k, .int .i64 M] w fun e w' => e = .returned (.int .i64 K) ∧ w = w') := Lib.hid fun w => by have := cmod_any k M w (by omega) (by omega); rw [hK] at this; exact this
      have M3 : Hid (∀ w, Calls Tryd.prog 27 #[.int .i64 ((F : Int) + (K : Int)), .int .i64 M] w fun e w' => e = .returned (.int .i64 A) ∧ w = w') := Lib.hid fun w => by have := cmod_any ((F : Int) + K) M w (by omega) (by omega); rw [hA] at this; exact this
      have HAE := Lib.hid hAE
      clear hF hK hA hAE
      obtain ⟨c0, s0, q0, hc0, hs0⟩ := (HF.out.kp hkp) 0 (by omega)
      go_wp2_with (first
        | (go_at_call 27; (with_reducible refine (M1.out _).mono ?_); rintro e w1 ⟨rfl, rfl⟩)
        | (go_at_call 27; (with_reducible refine (M2.out _).mono ?_); rintro e w1 ⟨rfl, rfl⟩)
        | (go_at_call 27; (with_reducible refine (M3.out _).mono ?_); rintro e w1 ⟨rfl, rfl⟩))
      have HC0 := Lib.hid (And.intro hc0 hs0)
      clear hc0 hs0 q0 M1 M2 M3
      have HOWN := Lib.hid (And.intro hown hp)
      clear hown hp
      obtain ⟨wo, rfl⟩ : ∃ wo : World, wo = wr := ⟨_, rfl⟩
      go_loopw [13, 14] (fun s i w2 => ∃ (j c d : Nat), 1 ≤ j ∧ j ≤ n ∧ s = .complex .f64 c d ∧ i = .int .i64 j ∧ cn c = (zacc f M A (j - 1)).1 ∧ cn d = (zacc f M A (j - 1)).2 ∧ Kp wo w2) (fun _ i _ => n - (intOf i).toNat)
      case atStart => exact ⟨1, c0, s0, by omega, by omega, rfl, rfl, HC0.out.1, HC0.out.2, Kp.refl _⟩
      case round =>
        obtain ⟨j, c, d, j1, jn, rfl, rfl, hc, hd, hk2⟩ := hrel
        by_cases hl2 : j < n
        · obtain ⟨R, hR, hRM, hjA, hjA2⟩ := zoom_idx j A M hAM (by omega) m2
          obtain ⟨c1, s1, q1, hc1, hs1⟩ := (HF.out.kp (hkp.trans hk2)) j hl2
          have HT : Hid (twist (f j) M R = twist (f j) M ((j : Int) * (A : Int))) := Lib.hid (twist_congr _ (by rw [← hR, Int.emod_emod_of_dvd _ (Int.dvd_refl _)]))
          have hM0 : ¬ M = 0 := by omega
          have eT : ((j : Int) * (A : Int)).tmod (M : Int) = (R : Int) := by rw [Int.tmod_eq_emod_of_nonneg hjA]; exact hR
          have ejA : IntKind.i64.wrap ((j : Int) * (A : Int)) = (j : Int) * (A : Int) := IntWalk.i64_in _ (by omega)
          have dR : decide (j < n) = true := by simpa using hl2
          go_wp2_with fail
          go_region_held3 (fun w' => w'.cell? ⟨g, j, none⟩ = some (.complex .f64 c1 s1)) (first | go_keep | exact hk3.later (by assumption))
            (first | (go_at_call 35; (refine (Twist_any _ _ _ _ _ (by omega) (by omega)).mono ?_); rintro e w3 ⟨x, y, rfl, hx, hy, hk3⟩; (rw [hc1, hs1] at hx hy)))
          have hkd : Kp wo wr.drew := hk2.drew
          clear q1 ejA hM0 dR eT hR hjA hjA2
          go_wp2_with ((with_reducible apply wpList_fl .add rfl); exact rfl; exact rfl; intro r1 n2 hr1)
          rename_i ra ma hra
          go_roundw
          case rel =>
            refine ⟨j + 1, _, _, by omega, by omega, rfl, by go_num, ?_, ?_, (hkd.trans hk3).drewN _⟩
            · rw [Nat.add_sub_cancel, zacc_step f M A j j1, ← HT.out, hra, hc, hx]; rfl
            · rw [Nat.add_sub_cancel, zacc_step f M A j j1, ← HT.out, hr1, hd, hy]; rfl
          case measure => simp [intOf]; omega
        · obtain rfl : j = n := by omega
          have hkp2 := hkp.trans hk2
          have hown2 := hk2.owns HOWN.out.1
          go_wp2_with (at_builtin; refine wpList_append_own _ rfl _ _ 38 rfl w.heap.size 23 i0 (.complex .f64 0 0) 1 16 Tryd.underlying38 hi hz0 hz1 hz2 rfl (by decide) _ _ _ rfl (hown2.alloc _) ⟨_, 0, none⟩ 1 1 [.complex .f64 c d] rfl rfl ?c1 ?c2 ?c3 ?c4 ?c5 ?_)
          case c1 => exact cell_one_new _ _ _
          case c2 => simp [Value.oneCell']
          case c3 => unfold maxLen; omega
          case c4 => omega
          case c5 => have e1 := hkp2.size; simp; omega
          intro v' w5 hown5 hg _
          have hk5 : Kp w w5 := (hkp2.alloc _).grown hg (fun j hj => (hown2.lt j hj).1)
          have hz : zacc f M A (j - 1) = zoom f j M from' k := zacc_congr f HAE.out _
          rw [hz] at hc hd
          have hp5 := HOWN.out.2.snoc (c := c) (s := d) (by simpa using hlen) hc hd
          clear hg hc hd
          go_wp2_with fail
          go_roundw
          case rel => exact ⟨k + 1, _, by omega, by go_num, hown5, hp5, hk5⟩
          case measure => simp [intOf]; omega
    · obtain rfl : k = count := by omega
      go_wp2_with fail
      go_ret2
      exact ⟨_, rfl, ⟨xs, hown, hp⟩, hkp⟩
end Go.Proofs.YtnkcjbabfckdgaaDoor
