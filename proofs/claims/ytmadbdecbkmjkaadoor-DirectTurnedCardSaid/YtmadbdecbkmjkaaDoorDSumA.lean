/-
  The walk of direct's sum over At's closure.
-/
import Derived.Test.YtmadbdecbkmjkaaDoorDSum
namespace Go.Proofs.YtmadbdecbkmjkaaDoor
open Go Go.RowKit Go.Fl Go.Roots

theorem acl_any (xp ap jp : Addr) (g n cap j at' jump : Nat) (f : Nat → Nat × Nat) (w : World) (hx : w.cell? xp = some (.slice (some ⟨g, 0, none⟩) n cap)) (ha : w.cell? ap = some (.int .i64 at')) (hj : w.cell? jp = some (.int .i64 jump)) (hf : Has w g n f) (hn : n ≤ 17592186044416) (hl : at' + j * jump < n) :
    Calls Tryd.prog 42 #[.int .i64 j, .pointer (some xp), .pointer (some ap), .pointer (some jp)] w fun e w' => ∃ c s, e = .returned (.complex .f64 c s) ∧ cn c = (f (at' + j * jump)).1 ∧ cn s = (f (at' + j * jump)).2 ∧ w = w' := by
  obtain ⟨c, s, hc, h1, h2⟩ := hf _ hl
  have em : (j : Int) * (jump : Int) = ((j * jump : Nat) : Int) := by rw [Int.natCast_mul]
  have ea : (at' : Int) + ((j * jump : Nat) : Int) = ((at' + j * jump : Nat) : Int) := by omega
  have hb : ((at' + j * jump : Nat) : Int) < (n : Int) := by omega
  have hb1 : ((j * jump : Nat) : Int) < (n : Int) := by omega
  generalize j * jump = p at *
  generalize at' + p = r at *
  clear hf
  go_enter Tryd.func42, Tryd.ntmps42
  go_wp2_with fail
  go_ret
  exact ⟨c, s, rfl, h1, h2, rfl⟩

set_option maxRecDepth 100000 in
set_option maxHeartbeats 400000 in
theorem asum_any (gw cw : Nat) (xp ap jp : Addr) (g n m cap at' jump : Nat) (k : Int) (f : Nat → Nat × Nat) (w : World) (n1 : 1 ≤ n) (n2 : n ≤ 1024)
    (hW : Has w gw n (fun j => root n j)) (hx : w.cell? xp = some (.slice (some ⟨g, 0, none⟩) m cap)) (ha : w.cell? ap = some (.int .i64 at')) (hj : w.cell? jp = some (.int .i64 jump)) (hf : Has w g m f) (hm1 : m ≤ 17592186044416) (hl : ∀ j, j < n → at' + j * jump < m) :
    Calls Tryd.prog 30 #[.slice (some ⟨gw, 0, none⟩) n cw, .int .i64 k, .func (.func 42) #[] #[.pointer (some xp), .pointer (some ap), .pointer (some jp)]] w fun e w' => ∃ c s, e = .returned (.complex .f64 c s) ∧ cn c = (dft (fun j => f (at' + j * jump)) n k).1 ∧ cn s = (dft (fun j => f (at' + j * jump)) n k).2 ∧ Kp w w' := by
  obtain ⟨ek, l1, l2⟩ := mod_go k n (by omega)
  obtain ⟨q, hq⟩ := Int.eq_ofNat_of_zero_le (Int.emod_nonneg k (show (n : Int) ≠ 0 by omega))
  have hqn : q < n := by have := Int.emod_lt_of_pos k (show 0 < (n : Int) by omega); omega
  have HQ := Lib.hid hq
  rw [hq] at ek
  clear hq
  go_enter Tryd.func30, Tryd.ntmps30
  go_wp2_with (go_at_call 42; (refine (acl_any xp ap jp g m cap 0 at' jump f _ hx ha hj hf hm1 (hl 0 (by omega))).mono ?_); rintro e w1 ⟨c0, s0, rfl, hc0, hs0, rfl⟩)
  go_loopw [8, 9] (fun s i wr => ∃ (j c d : Nat), 1 ≤ j ∧ j ≤ n ∧ s = .complex .f64 c d ∧ i = .int .i64 j ∧ cn c = (acc (fun j => f (at' + j * jump)) n k (j - 1)).1 ∧ cn d = (acc (fun j => f (at' + j * jump)) n k (j - 1)).2 ∧ Kp w wr) (fun _ i _ => n - (intOf i).toNat)
  case atStart => exact ⟨1, c0, s0, by omega, by omega, rfl, rfl, hc0, hs0, Kp.refl _⟩
  case round =>
    clear hc0 hs0
    obtain ⟨j, c, d, j1, jn, rfl, rfl, hc, hd, hkp⟩ := hrel
    by_cases hlt : j < n
    · have hjq : (j : Int) * (q : Int) ≤ 1048576 := by
        have := Nat.mul_le_mul (show j ≤ 1024 by omega) (show q ≤ 1024 by omega)
        have : ((j * q : Nat) : Int) ≤ 1048576 := by omega
        rwa [Int.natCast_mul] at this
      have hjq0 : 0 ≤ (j : Int) * (q : Int) := Int.mul_nonneg (by omega) (by omega)
      have hm := jq_mod j q n
      have hml : j * q % n < n := Nat.mod_lt _ (by omega)
      have ht : term (fun j => f (at' + j * jump)) n k j = twist (f (at' + j * jump)) n (((j : Int) * (q : Int)) % n) := by rw [← HQ.out]; rfl
      obtain ⟨cw, sw, hcell, hcw, hsw⟩ := hW.kp hkp (j * q % n) hml
      have hx' := hkp.later hx
      have ha' := hkp.later ha
      have hj' := hkp.later hj
      have hf' := hf.kp hkp
      have hT : Hid _ := Lib.hid ht
      clear ht
      by_cases hz : j * q % n = 0
      · have ht0 : term (fun j => f (at' + j * jump)) n k j = f (at' + j * jump) := by rw [hT.out, hm, hz]; unfold twist; rw [if_pos (by simp)]
        rw [hz] at hm
        have HT := Lib.hid ht0
        clear hT ht0 hcell hcw hsw
        go_wp2_with (first
          | (go_at_call 42; (refine (acl_any xp ap jp g m cap j at' jump f _ hx' ha' hj' hf' hm1 (hl j hlt)).mono ?_); rintro e w1 ⟨c1, s1, rfl, hc1, hs1, rfl⟩)
          | ((with_reducible apply wpList_fl .add rfl); exact rfl; exact rfl; intro r1 m1 hr1))
        rename_i ra ma hra
        go_roundw
        case rel =>
          refine ⟨j + 1, _, _, by omega, by omega, rfl, by go_num, ?_, ?_, hkp.drewN _⟩
          · rw [Nat.add_sub_cancel, acc_step (fun j => f (at' + j * jump)) n k j j1, HT.out, hra, hc, hc1]; rfl
          · rw [Nat.add_sub_cancel, acc_step (fun j => f (at' + j * jump)) n k j j1, HT.out, hr1, hd, hs1]; rfl
        case measure => simp [intOf]; omega
      · have ht0 : term (fun j => f (at' + j * jump)) n k j = cmul (f (at' + j * jump)) (root n ((j * q % n : Nat) : Int)) := by
          rw [hT.out, hm]
          have := twist_more (f (at' + j * jump)) n ((j * q % n : Nat) : Int) (by rw [Int.emod_eq_of_lt (by omega) (by omega)]; omega)
          rwa [Int.emod_eq_of_lt (by omega) (by omega)] at this
        have HT := Lib.hid ht0
        generalize j * q % n = e at *
        have he : (((e : Nat) : Int) == 0) = false := by simp; omega
        have hen : ((e : Nat) : Int) < (n : Int) := by omega
        clear hT ht0
        go_wp2_with (first
          | (go_at_call 42; (refine (acl_any xp ap jp g m cap j at' jump f _ hx' ha' hj' hf' hm1 (hl j hlt)).mono ?_); rintro e w1 ⟨c1, s1, rfl, hc1, hs1, rfl⟩)
          | (go_at_call 38; (refine (Mul_any _ _ _ _ _).mono ?_); rintro e w1 ⟨x, y, rfl, hx2, hy2, hk2⟩; (rw [hc1, hs1, hcw, hsw] at hx2 hy2))
          | ((with_reducible apply wpList_fl .add rfl); exact rfl; exact rfl; intro r1 m1 hr1))
        rename_i ra ma hra
        go_roundw
        case rel =>
          refine ⟨j + 1, _, _, by omega, by omega, rfl, by go_num, ?_, ?_, (hkp.trans hk2).drewN _⟩
          · rw [Nat.add_sub_cancel, acc_step (fun j => f (at' + j * jump)) n k j j1, HT.out, hra, hc, hx2]; rfl
          · rw [Nat.add_sub_cancel, acc_step (fun j => f (at' + j * jump)) n k j j1, HT.out, hr1, hd, hy2]; rfl
        case measure => simp [intOf]; omega
    · obtain rfl : j = n := by omega
      go_wp2_with fail
      go_ret
      exact ⟨c, d, rfl, hc, hd, hkp⟩
end Go.Proofs.YtmadbdecbkmjkaaDoor
