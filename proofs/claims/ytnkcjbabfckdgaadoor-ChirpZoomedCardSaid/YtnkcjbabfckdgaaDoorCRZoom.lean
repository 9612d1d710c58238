/-
  The walk of the reference's Zoom.
-/
import Derived.Test.YtnkcjbabfckdgaaDoorCZoom
namespace Go.Proofs.YtnkcjbabfckdgaaDoor
open Go Go.RowKit Go.Fl Go.Roots

set_option maxRecDepth 100000 in
set_option maxHeartbeats 2000000 in
theorem rZoom_any (g n cap M : Nat) (from' : Int) (count : Nat) (f : Nat → Nat × Nat) (w : World) (n1 : 1 ≤ n) (hn : n ≤ 8796093022208) (m1 : 1 ≤ M) (m2 : M ≤ 4194304) (hc : (count : Int) ≤ 1048576 / (n : Int)) (hf : Has w g n f) :
    Calls Tryd.prog 25 #[.slice (some ⟨g, 0, none⟩) n cap, .int .i64 M, .int .i64 from', .int .i64 count] w fun e w' => ∃ v, e = .returned (.tuple #[v, .int .i64 0]) ∧ CO w' w.heap.size v count (zoom f n M from') ∧ Kp w w' := by
  obtain ⟨i0, hi, hz0, hz1, hz2⟩ := info_parts info_c
  have hcn := zoom_len n1 hc
  have d0 : ((n : Int) == 0) = false := by rw [beq_eq_false_iff_ne]; omega
  have d1 : decide ((M : Int) < 1) = false := by simp; omega
  have d2 : decide ((4194304 : Int) < M) = false := by simp; omega
  obtain ⟨Q, hQ⟩ : ∃ Q : Nat, 1048576 / (n : Int) = (Q : Int) := Int.eq_ofNat_of_zero_le (Int.ediv_nonneg (by omega) (by omega))
  have d3 : decide ((Q : Int) < (count : Int)) = false := by simp; omega
  have d3' : decide (Q < count) = false := by simp; omega
  have d4 : decide ((count : Int) < 0) = false := by simp
  have hQb : Q ≤ 1048576 := by
    have := Int.ediv_le_self (a := 1048576) (n : Int) (by omega)
    omega
  have hQw : IntKind.i64.wrap (Q : Int) = (Q : Int) := IntWalk.i64_in _ (by omega)
  have hcb : count ≤ 1048576 := by
    have := Nat.mul_le_mul (Nat.le_refl count) n1
    omega
  have HF := Lib.hid hf
  have HCN := Lib.hid hcn
  clear hf hc hcn
  have hown0 := owns_empty w
  have hk0 : Kp w (w.alloc (.cells #[] 23)) := (Kp.refl w).alloc _
  obtain ⟨F, hF⟩ := Int.eq_ofNat_of_zero_le (Int.emod_nonneg from' (show (M : Int) ≠ 0 by omega))
  have hFM : F < M := by have := Int.emod_lt_of_pos from' (show 0 < (M : Int) by omega); omega
  have M1 : Hid (∀ w, Calls Tryd.prog 36 #[.int .i64 from', .int .i64 M] w fun e w' => e = .returned (.int .i64 F) ∧ w = w') := Lib.hid fun w => by have := rMod_any from' M w (by omega) (by omega); rw [hF] at this; exact this
  have HFF := Lib.hid hF
  clear hF
  go_enter Tryd.func25, Tryd.ntmps25
  go_wp2_with (go_at_call 36; (with_reducible refine (M1.out _).mono ?_); rintro e w1 ⟨rfl, rfl⟩)
  clear hQ d0
  go_loopw [10, 11, 12] (fun v a i wr => ∃ (k : Nat) (xs : List Value) (A : Nat), k ≤ count ∧ a = .int .i64 A ∧ A < M ∧ Hid ((A : Int) % (M : Int) = (from' + k) % (M : Int)) ∧ i = .int .i64 k ∧ wr.ownsRow w.heap.size 23 1 v k xs ∧ PartC (zoom f n M from') xs k ∧ Kp w wr) (fun _ _ i _ => count - (intOf i).toNat)
  case atStart => exact ⟨0, [], F, by omega, rfl, hFM, Lib.hid (by rw [← HFF.out, Int.emod_emod_of_dvd _ (Int.dvd_refl _)]; simp), rfl, hown0, fun j hj => absurd hj (by omega), hk0⟩
  case round =>
    clear hown0 hk0
    obtain ⟨k, xs, A, hk, rfl, hAM, HAE, rfl, hown, hp, hkp⟩ := hrel
    have hlen := hown.1
    by_cases hlt : k < count
    · have hnb : n ≤ 1048576 := by
        have := Nat.mul_le_mul (show 1 ≤ count by omega) (Nat.le_refl n)
        have := HCN.out
        omega
      have hMz : ((M : Int) == 0) = false := by rw [beq_eq_false_iff_ne]; omega
      obtain ⟨B, hB⟩ : ∃ B, (A + 1) % M = B := ⟨_, rfl⟩
      have hBM : B < M := by rw [← hB]; exact Nat.mod_lt _ (by omega)
      have eB : ((A : Int) + 1) % (M : Int) = (B : Int) := by rw [← hB]; simp
      have HBE : Hid ((B : Int) % (M : Int) = (from' + ((k + 1 : Nat) : Int)) % (M : Int)) := Lib.hid (by rw [← eB, Int.emod_emod_of_dvd _ (Int.dvd_refl _), Int.add_emod, HAE.out, ← Int.add_emod]; congr 1; omega)
      clear hB
      obtain ⟨c0, s0, q0, hc0, hs0⟩ := (HF.out.kp hkp) 0 (by omega)
      go_wp2_with fail
      have HC0 := Lib.hid (And.intro hc0 hs0)
      clear hc0 hs0 q0
      have HOWN := Lib.hid (And.intro hown hp)
      clear hown hp
      obtain ⟨wo, rfl⟩ : ∃ wo : World, wo = wr := ⟨_, rfl⟩
      go_loopw [13, 14] (fun s i w2 => ∃ (j c d : Nat), 1 ≤ j ∧ j ≤ n ∧ s = .complex .f64 c d ∧ i = .int .i64 j ∧ cn c = (zacc f M A (j - 1)).1 ∧ cn d = (zacc f M A (j - 1)).2 ∧ Kp wo w2) (fun _ i _ => n - (intOf i).toNat)
      case atStart => exact ⟨1, c0, s0, by omega, by omega, rfl, rfl, HC0.out.1, HC0.out.2, Kp.refl _⟩
      case round =>
        obtain ⟨j, c, d, j1, jn, rfl, rfl, hc, hd, hk2⟩ := hrel
        by_cases hl2 : j < n
        · obtain ⟨J, hJ⟩ : ∃ J, j % M = J := ⟨_, rfl⟩
          have eJ : (j : Int) % (M : Int) = (J : Int) := by rw [← hJ]; simp
          have hJj : J ≤ j := by rw [← hJ]; exact Nat.mod_le _ _
          obtain ⟨R, hR, hRM, hjA, hjA2⟩ := zoom_idx J A M hAM (by omega) m2
          obtain ⟨c1, s1, q1, hc1, hs1⟩ := (HF.out.kp (hkp.trans hk2)) j hl2
          have HT : Hid (twist (f j) M R = twist (f j) M ((j : Int) * (A : Int))) := Lib.hid (twist_congr _ (by rw [← hR, Int.emod_emod_of_dvd _ (Int.dvd_refl _), ← eJ, Int.mul_emod, Int.emod_emod_of_dvd _ (Int.dvd_refl _), ← Int.mul_emod]))
          have ejA : IntKind.i64.wrap ((J : Int) * (A : Int)) = (J : Int) * (A : Int) := IntWalk.i64_in _ (by omega)
          have hM0 : ¬ M = 0 := by omega
          have eT : ((J : Int) * (A : Int)).tmod (M : Int) = (R : Int) := by rw [Int.tmod_eq_emod_of_nonneg hjA]; exact hR
          have eJT : ((j : Int)).tmod (M : Int) = (J : Int) := by rw [Int.tmod_eq_emod_of_nonneg (by omega)]; exact eJ
          have dR : decide (j < n) = true := by simpa using hl2
          go_wp2_with fail
          go_region_held3 (fun w' => w'.cell? ⟨g, j, none⟩ = some (.complex .f64 c1 s1)) (first | go_keep | exact hk3.later (by assumption))
            (first | (go_at_call 37; (refine (rTwist_any _ _ _ _ _ (by omega) (by omega)).mono ?_); rintro e w3 ⟨x, y, rfl, hx, hy, hk3⟩; (rw [hc1, hs1] at hx hy)))
          have hkd : Kp wo wr.drew := hk2.drew
          clear q1 ejA dR eJ hJ eT eJT hM0 hR hjA hjA2
          go_wp2_with (go_at_call 38; (refine (Plus_any _ _ _ _ _).mono ?_); rintro e w4 ⟨x2, y2, rfl, hx2, hy2, hk4⟩)
          go_roundw
          case rel =>
            refine ⟨j + 1, _, _, by omega, by omega, rfl, by go_num, ?_, ?_, (hkd.trans hk3).trans hk4⟩
            · rw [Nat.add_sub_cancel, zacc_step f M A j j1, ← HT.out, hx2, hc, hd, hx, hy]
            · rw [Nat.add_sub_cancel, zacc_step f M A j j1, ← HT.out, hy2, hc, hd, hx, hy]
          case measure => simp [intOf]; omega
        · obtain rfl : j = n := by omega
          have hkp2 := hkp.trans hk2
          have hown2 := hk2.owns HOWN.out.1
          go_wp2_with (at_builtin; refine wpList_append_own _ rfl _ _ 38 rfl w.heap.size 23 i0 (.complex .f64 0 0) 1 16 Tryd.underlying38 hi hz0 hz1 hz2 rfl (by decide) _ _ _ rfl (hown2.alloc _) ⟨_, 0, none⟩ 1 1 [.complex .f64 c d] rfl rfl ?c1 ?c2 ?c3 ?c4 ?c5 ?_)
          case c1 => exact cell_one_new _ _ _
          case c2 => simp [Value.oneCell']
          case c3 => unfold maxLen; omega
          case c4 => omega
          case c5 => have e1 := hkp2.size; simp; omega
          intro v' w5 hown5 hg _
          have hk5 : Kp w w5 := (hkp2.alloc _).grown hg (fun j hj => (hown2.lt j hj).1)
          have hz : zacc f M A (j - 1) = zoom f j M from' k := zacc_congr f HAE.out _
          rw [hz] at hc hd
          have hp5 := HOWN.out.2.snoc (c := c) (s := d) (by simpa using hlen) hc hd
          clear hg hc hd
          go_wp2_with fail
          go_roundw
          case rel => exact ⟨k + 1, _, B, by omega, by rw [eB], hBM, HBE, by go_num, hown5, hp5, hk5⟩
          case measure => simp [intOf]; omega
    · obtain rfl : k = count := by omega
      go_wp2_with fail
      go_ret2
      exact ⟨_, rfl, ⟨xs, hown, hp⟩, hkp⟩
end Go.Proofs.YtnkcjbabfckdgaaDoor
