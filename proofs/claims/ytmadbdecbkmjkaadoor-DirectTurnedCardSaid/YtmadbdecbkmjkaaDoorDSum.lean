/-
  Layer 10: the sum k of a list of complex numbers, as plain functions on floats modulo NaN; the walks of direct's sum over a closure.
-/
import Derived.Test.YtmadbdecbkmjkaaDoorRAll
import Derived.Test.YtmadbdecbkmjkaaDoorRMul
namespace Go.Proofs.YtmadbdecbkmjkaaDoor
open Go Go.RowKit Go.Fl Go.Roots

def cadd (p q : Nat × Nat) : Nat × Nat := (add p.1 q.1, add p.2 q.2)
/-- Element j, turned. -/
def term (f : Nat → Nat × Nat) (n k : Int) (j : Nat) : Nat × Nat := twist (f j) n (((j : Int) * (k % n)) % n)
/-- The sum of the first j + 1 terms. -/
def acc (f : Nat → Nat × Nat) (n k : Int) : Nat → Nat × Nat
  | 0 => f 0
  | j + 1 => cadd (acc f n k j) (term f n k (j + 1))
def dft (f : Nat → Nat × Nat) (n : Nat) (k : Int) : Nat × Nat := acc f n k (n - 1)
theorem twist_zero (a : Nat × Nat) (n p : Int) (h : p % n = 0) : twist a n (p % n) = a := by
  unfold twist; rw [Int.emod_emod, if_pos h]
theorem twist_more (a : Nat × Nat) (n p : Int) (h : p % n ≠ 0) : twist a n (p % n) = cmul a (root n (p % n)) := by
  unfold twist; rw [Int.emod_emod, if_neg h]

/-- n complex numbers lie there, f's but for the bits of a NaN. -/
def Has (w : World) (g n : Nat) (f : Nat → Nat × Nat) : Prop := ∀ j, j < n → ∃ c s, w.cell? ⟨g, j, none⟩ = some (.complex .f64 c s) ∧ cn c = (f j).1 ∧ cn s = (f j).2
theorem Has.kp {w w' : World} {g n : Nat} {f : Nat → Nat × Nat} (h : Has w g n f) (k : Kp w w') : Has w' g n f := by
  intro j hj
  obtain ⟨c, s, h1, h2⟩ := h j hj
  exact ⟨c, s, k.later h1, h2⟩
theorem Has.own {w : World} {base : Nat} {g n m cap : Nat} {xs : List Value} {f : Nat → Nat × Nat} (h : w.ownsRow base 27 1 (.slice (some ⟨g, 0, none⟩) m cap) m xs) (hm : n ≤ m)
    (hx : ∀ j, j < n → ∃ c s, xs[j]? = some (.complex .f64 c s) ∧ cn c = (f j).1 ∧ cn s = (f j).2) : Has w g n f := by
  intro j hj
  obtain ⟨c, s, h1, h2⟩ := hx j hj
  refine ⟨c, s, ?_, h2⟩
  rw [h.cellAt j (by omega)]; exact h1

theorem fcl_any (xp : Addr) (g n cap j : Nat) (f : Nat → Nat × Nat) (w : World) (hx : w.cell? xp = some (.slice (some ⟨g, 0, none⟩) n cap)) (hf : Has w g n f) (hj : j < n) :
    Calls Tryd.prog 31 #[.int .i64 j, .pointer (some xp)] w fun e w' => ∃ c s, e = .returned (.complex .f64 c s) ∧ cn c = (f j).1 ∧ cn s = (f j).2 ∧ w = w' := by
  obtain ⟨c, s, hc, h1, h2⟩ := hf j hj
  clear hf
  go_enter Tryd.func31, Tryd.ntmps31
  go_wp2_with fail
  go_ret
  exact ⟨c, s, rfl, h1, h2, rfl⟩

theorem jq_mod (j q n : Nat) : ((j : Int) * (q : Int)) % (n : Int) = ((j * q % n : Nat) : Int) := by
  rw [← Int.natCast_mul, ← Int.natCast_emod]
theorem acc_step (f : Nat → Nat × Nat) (n k : Int) (j : Nat) (h : 1 ≤ j) : acc f n k j = cadd (acc f n k (j - 1)) (term f n k j) := by
  obtain ⟨i, rfl⟩ : ∃ i, j = i + 1 := ⟨j - 1, by omega⟩
  rfl

set_option maxRecDepth 100000 in
set_option maxHeartbeats 400000 in
theorem fsum_any (gw cw : Nat) (xp : Addr) (g n cap : Nat) (k : Int) (f : Nat → Nat × Nat) (w : World) (n1 : 1 ≤ n) (n2 : n ≤ 1024)
    (hW : Has w gw n (fun j => root n j)) (hx : w.cell? xp = some (.slice (some ⟨g, 0, none⟩) n cap)) (hf : Has w g n f) :
    Calls Tryd.prog 30 #[.slice (some ⟨gw, 0, none⟩) n cw, .int .i64 k, .func (.func 31) #[] #[.pointer (some xp)]] w fun e w' => ∃ c s, e = .returned (.complex .f64 c s) ∧ cn c = (dft f n k).1 ∧ cn s = (dft f n k).2 ∧ Kp w w' := by
  obtain ⟨ek, l1, l2⟩ := mod_go k n (by omega)
  obtain ⟨q, hq⟩ := Int.eq_ofNat_of_zero_le (Int.emod_nonneg k (show (n : Int) ≠ 0 by omega))
  have hqn : q < n := by have := Int.emod_lt_of_pos k (show 0 < (n : Int) by omega); omega
  have HQ := Lib.hid hq
  rw [hq] at ek
  clear hq
  go_enter Tryd.func30, Tryd.ntmps30
  go_wp2_with (go_at_call 31; (refine (fcl_any xp g n cap 0 f _ hx hf (by omega)).mono ?_); rintro e w1 ⟨c0, s0, rfl, hc0, hs0, rfl⟩)
  go_loopw [8, 9] (fun s i wr => ∃ (j c d : Nat), 1 ≤ j ∧ j ≤ n ∧ s = .complex .f64 c d ∧ i = .int .i64 j ∧ cn c = (acc f n k (j - 1)).1 ∧ cn d = (acc f n k (j - 1)).2 ∧ Kp w wr) (fun _ i _ => n - (intOf i).toNat)
  case atStart => exact ⟨1, c0, s0, by omega, by omega, rfl, rfl, hc0, hs0, Kp.refl _⟩
  case round =>
    clear hc0 hs0
    obtain ⟨j, c, d, j1, jn, rfl, rfl, hc, hd, hkp⟩ := hrel
    by_cases hlt : j < n
    · have hjq : (j : Int) * (q : Int) ≤ 1048576 := by
        have := Nat.mul_le_mul (show j ≤ 1024 by omega) (show q ≤ 1024 by omega)
        have : ((j * q : Nat) : Int) ≤ 1048576 := by omega
        rwa [Int.natCast_mul] at this
      have hjq0 : 0 ≤ (j : Int) * (q : Int) := Int.mul_nonneg (by omega) (by omega)
      have hm := jq_mod j q n
      have hml : j * q % n < n := Nat.mod_lt _ (by omega)
      have ht : term f n k j = twist (f j) n (((j : Int) * (q : Int)) % n) := by rw [← HQ.out]; rfl
      obtain ⟨cw, sw, hcell, hcw, hsw⟩ := hW.kp hkp (j * q % n) hml
      have hx' := hkp.later hx
      have hf' := hf.kp hkp
      have hT : Hid _ := Lib.hid ht
      clear ht
      by_cases hz : j * q % n = 0
      · have ht0 : term f n k j = f j := by rw [hT.out, hm, hz]; unfold twist; rw [if_pos (by simp)]
        rw [hz] at hm
        have HT := Lib.hid ht0
        clear hT ht0 hcell hcw hsw
        go_wp2_with (first
          | (go_at_call 31; (refine (fcl_any xp g n cap j f _ hx' hf' hlt).mono ?_); rintro e w1 ⟨c1, s1, rfl, hc1, hs1, rfl⟩)
          | ((with_reducible apply wpList_fl .add rfl); exact rfl; exact rfl; intro r1 m1 hr1))
        rename_i ra ma hra
        go_roundw
        case rel =>
          refine ⟨j + 1, _, _, by omega, by omega, rfl, by go_num, ?_, ?_, hkp.drewN _⟩
          · rw [Nat.add_sub_cancel, acc_step f n k j j1, HT.out, hra, hc, hc1]; rfl
          · rw [Nat.add_sub_cancel, acc_step f n k j j1, HT.out, hr1, hd, hs1]; rfl
        case measure => simp [intOf]; omega
      · have ht0 : term f n k j = cmul (f j) (root n ((j * q % n : Nat) : Int)) := by
          rw [hT.out, hm]
          have := twist_more (f j) n ((j * q % n : Nat) : Int) (by rw [Int.emod_eq_of_lt (by omega) (by omega)]; omega)
          rwa [Int.emod_eq_of_lt (by omega) (by omega)] at this
        have HT := Lib.hid ht0
        generalize j * q % n = e at *
        have he : (((e : Nat) : Int) == 0) = false := by simp; omega
        have hen : ((e : Nat) : Int) < (n : Int) := by omega
        clear hT ht0
        go_wp2_with (first
          | (go_at_call 31; (refine (fcl_any xp g n cap j f _ hx' hf' hlt).mono ?_); rintro e w1 ⟨c1, s1, rfl, hc1, hs1, rfl⟩)
          | (go_at_call 38; (refine (Mul_any _ _ _ _ _).mono ?_); rintro e w1 ⟨x, y, rfl, hx2, hy2, hk2⟩; (rw [hc1, hs1, hcw, hsw] at hx2 hy2))
          | ((with_reducible apply wpList_fl .add rfl); exact rfl; exact rfl; intro r1 m1 hr1))
        rename_i ra ma hra
        go_roundw
        case rel =>
          refine ⟨j + 1, _, _, by omega, by omega, rfl, by go_num, ?_, ?_, (hkp.trans hk2).drewN _⟩
          · rw [Nat.add_sub_cancel, acc_step f n k j j1, HT.out, hra, hc, hx2]; rfl
          · rw [Nat.add_sub_cancel, acc_step f n k j j1, HT.out, hr1, hd, hy2]; rfl
        case measure => simp [intOf]; omega
    · obtain rfl : j = n := by omega
      go_wp2_with fail
      go_ret
      exact ⟨c, d, rfl, hc, hd, hkp⟩
end Go.Proofs.YtmadbdecbkmjkaaDoor
