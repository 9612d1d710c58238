/-
  The walk of layer 10's turned: whole numbers turned and summed.
-/
import Derived.Test.YtmadbdecbkmjkaaDoorDExS
import Derived.Test.YtmadbdecbkmjkaaDoorDSpreadW
namespace Go.Proofs.YtmadbdecbkmjkaaDoor
open Go Go.RowKit Go.Fl Go.Roots

/-- n whole numbers lie there. -/
def HasI (w : World) (g n : Nat) (f : Nat → Int) : Prop := ∀ j, j < n → w.cell? ⟨g, j, none⟩ = some (.int .i64 (f j))
theorem HasI.kp {w w' : World} {g n : Nat} {f : Nat → Int} (h : HasI w g n f) (k : Kp w w') : HasI w' g n f := fun j hj => k.later (h j hj)
theorem q_cases (q : Nat) (a b : Int) : (q % 4 = 0 ∧ qre q a b = a ∧ qim q a b = b) ∨ (q % 4 = 1 ∧ qre q a b = b ∧ qim q a b = -a) ∨ (q % 4 = 2 ∧ qre q a b = -a ∧ qim q a b = -b) ∨ (q % 4 = 3 ∧ qre q a b = -b ∧ qim q a b = a) := by
  have h := Nat.mod_lt q (show 0 < 4 by decide)
  unfold qre qim
  rcases (show q % 4 = 0 ∨ q % 4 = 1 ∨ q % 4 = 2 ∨ q % 4 = 3 by omega) with e | e | e | e <;> rw [e] <;> simp
theorem qcast {q r : Nat} (h : q % 4 = r) : (q : Int) % 4 = (r : Int) := by omega
set_option maxRecDepth 100000 in
set_option maxHeartbeats 4000000 in
theorem turned_any (e k gr gi n : Nat) (re im : Nat → Int) (w : World) (he : e < 3) (hn : 2 ^ e = n) (hk : k < n) (hr : HasI w gr n re) (hi : HasI w gi n im) (hb : ∀ j, j < n → (re j).natAbs ≤ 1099511627776 ∧ (im j).natAbs ≤ 1099511627776) :
    Calls Tryd.prog 10 #[.slice (some ⟨gr, 0, none⟩) n n, .slice (some ⟨gi, 0, none⟩) n n, .int .i64 k] w fun e' w' => e' = .returned (.tuple #[.int .i64 (sumR (2 ^ (2 - e)) k re im n), .int .i64 (sumI (2 ^ (2 - e)) k re im n)]) ∧ Kp w w' := by
  have HR := Lib.hid hr
  have HI := Lib.hid hi
  have HB := Lib.hid hb
  clear hr hi hb
  obtain ⟨u, hu, hun⟩ : ∃ u, 2 ^ (2 - e) = u ∧ u * n = 4 := by
    rcases (show e = 0 ∨ e = 1 ∨ e = 2 by omega) with rfl | rfl | rfl
    · exact ⟨4, rfl, by rw [← hn]⟩
    · exact ⟨2, rfl, by rw [← hn]⟩
    · exact ⟨1, rfl, by rw [← hn]⟩
  rw [hu]
  have hn0 : ((n : Int) == 0) = false := by rw [beq_eq_false_iff_ne]; omega
  have hn1 : 1 ≤ n := by omega
  have hn4 : n ≤ 4 := by rw [← hn]; rcases (show e = 0 ∨ e = 1 ∨ e = 2 by omega) with rfl | rfl | rfl <;> decide
  have hu4 : u ≤ 4 := by rw [← hu]; rcases (show e = 0 ∨ e = 1 ∨ e = 2 by omega) with rfl | rfl | rfl <;> decide
  have hq : (4 : Int) / (n : Int) = (u : Int) := by
    have : (4 : Int) = (u : Int) * (n : Int) := by rw [← Int.natCast_mul, hun]; rfl
    rw [this, Int.mul_ediv_cancel _ (by omega)]
  clear hu hn he hun
  go_enter Tryd.func10, Tryd.ntmps10
  go_wp2_with fail
  go_loopw [9, 10, 11] (fun a b c wr => ∃ j : Nat, j ≤ n ∧ a = .int .i64 (sumR u k re im j) ∧ b = .int .i64 (sumI u k re im j) ∧ c = .int .i64 j ∧ Kp w wr) (fun _ _ c _ => n - (intOf c).toNat)
  case atStart => exact ⟨0, by omega, rfl, rfl, rfl, Kp.refl _⟩
  case round =>
    obtain ⟨j, hj, rfl, rfl, rfl, hkr⟩ := hrel
    by_cases hlt : j < n
    · have q1 := (HR.out.kp hkr) j hlt
      have q2 := (HI.out.kp hkr) j hlt
      obtain ⟨b1, b2⟩ := HB.out j hlt
      obtain ⟨s1, s2⟩ := sum_le u k re im 1099511627776 j fun i hi => HB.out i (by omega)
      have hj4 : j * 1099511627776 ≤ 4 * 1099511627776 := Nat.mul_le_mul_right _ (by omega)
      obtain ⟨p, hp⟩ : ∃ p, u * j = p := ⟨_, rfl⟩
      obtain ⟨q, hqq⟩ : ∃ q, p * k = q := ⟨_, rfl⟩
      have hp16 : p ≤ 16 := by rw [← hp]; exact Nat.mul_le_mul hu4 (show j ≤ 4 by omega)
      have hq64 : q ≤ 64 := by rw [← hqq]; exact Nat.mul_le_mul hp16 (show k ≤ 4 by omega)
      have em1 : (u : Int) * (j : Int) = (p : Int) := by rw [← hp, Int.natCast_mul]
      have em2 : (p : Int) * (k : Int) = (q : Int) := by rw [← hqq, Int.natCast_mul]
      have hS : Hid (sumR u k re im (j + 1) = sumR u k re im j + qre q (re j) (im j) ∧ sumI u k re im (j + 1) = sumI u k re im j + qim q (re j) (im j)) := Lib.hid (by rw [← hqq, ← hp]; exact ⟨rfl, rfl⟩)
      have hqc := q_cases q (re j) (im j)
      generalize sumR u k re im j = R at *
      generalize sumI u k re im j = I at *
      generalize re j = x at *
      generalize im j = y at *
      clear hp hqq
      rcases hqc with ⟨r, e1, e2⟩ | ⟨r, e1, e2⟩ | ⟨r, e1, e2⟩ | ⟨r, e1, e2⟩
      all_goals
        rw [e1, e2] at hS
        clear e1 e2
        have er := qcast r
        have v1 : IntKind.i64.wrap (R + x) = R + x := IntWalk.i64_in _ (by omega)
        have v2 : IntKind.i64.wrap (I + y) = I + y := IntWalk.i64_in _ (by omega)
        have v3 : IntKind.i64.wrap (R + y) = R + y := IntWalk.i64_in _ (by omega)
        have v4 : IntKind.i64.wrap (I - x) = I - x := IntWalk.i64_in _ (by omega)
        have v5 : IntKind.i64.wrap (R - x) = R - x := IntWalk.i64_in _ (by omega)
        have v6 : IntKind.i64.wrap (I - y) = I - y := IntWalk.i64_in _ (by omega)
        have v7 : IntKind.i64.wrap (R - y) = R - y := IntWalk.i64_in _ (by omega)
        have v8 : IntKind.i64.wrap (I + x) = I + x := IntWalk.i64_in _ (by omega)
        go_wp2_with fail
        go_quiet (fail)
        clear v1 v2 v3 v4 v5 v6 v7 v8 hq
        go_wp2_with fail
        go_roundw
        case rel => exact ⟨j + 1, by omega, by rw [hS.out.1]; first | done | rfl | (congr 1; omega), by rw [hS.out.2]; first | done | rfl | (congr 1; omega), by go_num, hkr.drewN nq⟩
        case measure => simp [intOf]; omega
    · obtain rfl : n = j := by omega
      go_wp2_with fail
      go_ret2
      exact ⟨rfl, hkr⟩
end Go.Proofs.YtmadbdecbkmjkaaDoor
