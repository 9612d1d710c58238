/-
  What orders cost, as a plain number; the walks of planner's and its reference's sums and products of costs.
-/
import Derived.Test.YtgjlldapnodfbaaDoorOLen
namespace Go.Ord
/-- What is above the dearest is one above it. -/
def sat (x : Int) : Int := if 4611686018427387904 < x then 4611686018427387905 else x
def wk (n : Int) : Int := if n = 2 then 4 else if n = 3 then 16 else if n = 4 then 16 else if n = 5 then 48 else 0
def tcost (a b x y : Int) (fly : Bool) : Int := a * y + b * x + 6 * (a - 1) * (b - 1) + (if fly then 0 else a * b)
def bcost (n m x : Int) : Int := 3 * x + 12 * n + 10 * m
def Tr.kind : Tr → Int
  | .nil => 0
  | .mk k _ _ _ => k
/-- What a good tree costs. -/
def Tr.C : Tr → Int
  | .nil => 0
  | .mk k n _ kid =>
    if k = 1 then 8 * n * n else if k = 2 then wk n else if k = 4 then bcost n (kid 0).len (kid 0).C
    else tcost (kid 0).len (kid 1).len (kid 0).C (kid 1).C ((kid 0).kind == 2)
theorem sat_range (x : Int) (h : 0 ≤ x) : 0 ≤ sat x ∧ sat x ≤ 4611686018427387905 := by unfold sat; split <;> omega
theorem sat_add (x y : Int) (hy : 0 ≤ y) : sat (sat x + y) = sat (x + y) := by
  unfold sat
  repeat' split
  all_goals omega
theorem sat_add2 (x y : Int) (hx : 0 ≤ x) : sat (x + sat y) = sat (x + y) := by rw [Int.add_comm, sat_add y x hx, Int.add_comm]
theorem sat_mul (a x : Int) (ha : 0 ≤ a) : sat (a * sat x) = sat (a * x) := by
  unfold sat
  split
  · rename_i h
    by_cases a0 : a = 0
    · subst a0; simp
    · have h1 : a * x ≥ 1 * x := Int.mul_le_mul_of_nonneg_right (by omega) (by omega)
      rw [if_pos (by omega), if_pos (by omega)]
  · rfl
theorem sat_small (x : Int) (h : x ≤ 4611686018427387904) : sat x = x := by unfold sat; rw [if_neg (by omega)]
theorem sat_big (x : Int) (h : 4611686018427387904 < x) : sat x = 4611686018427387905 := by unfold sat; rw [if_pos h]
theorem sat_mono {x y : Int} (h : x ≤ y) : sat x ≤ sat y := by unfold sat; repeat' split; all_goals omega
/-- Costs that are cut may be cut ahead. -/
theorem tcost_sat (a b x y : Int) (f : Bool) (ha : 1 ≤ a) (hb : 1 ≤ b) (hx : 0 ≤ x) (hy : 0 ≤ y) : sat (tcost a b (sat x) (sat y) f) = sat (tcost a b x y f) := by
  have p1 : 0 ≤ a * y := Int.mul_nonneg (by omega) hy
  have p2 : 0 ≤ b * x := Int.mul_nonneg (by omega) hx
  have p3 : 0 ≤ 6 * (a - 1) * (b - 1) := Int.mul_nonneg (by omega) (by omega)
  have p4 : 0 ≤ a * b := Int.mul_nonneg (by omega) (by omega)
  have p5 : 0 ≤ a * sat y := Int.mul_nonneg (by omega) (sat_range y hy).1
  have h1 := sat_mul a y (by omega)
  have h2 := sat_mul b x (by omega)
  unfold tcost
  generalize 6 * (a - 1) * (b - 1) = P at *
  obtain ⟨R, hR, hR0⟩ : ∃ R, (if f = true then 0 else a * b) = R ∧ 0 ≤ R := ⟨_, rfl, by split <;> omega⟩
  rw [hR]
  have e1 : sat (a * sat y + b * sat x + P + R) = sat (sat (a * sat y) + (b * sat x + P + R)) := by
    have : 0 ≤ b * sat x := Int.mul_nonneg (by omega) (sat_range x hx).1
    rw [sat_add _ _ (by omega)]; congr 1; omega
  have e2 : sat (a * y + b * sat x + P + R) = sat (sat (b * sat x) + (a * y + P + R)) := by
    rw [sat_add _ _ (by omega)]; congr 1; omega
  have e3 : sat (a * y + b * x + P + R) = sat (sat (b * x) + (a * y + P + R)) := by
    rw [sat_add _ _ (by omega)]; congr 1; omega
  rw [e1, h1, sat_add _ _ (by have : 0 ≤ b * sat x := Int.mul_nonneg (by omega) (sat_range x hx).1; omega), e3, ← h2, ← e2]
  congr 1; omega
theorem bcost_sat (n m x : Int) (hn : 0 ≤ n) (hm : 0 ≤ m) : sat (bcost n m (sat x)) = sat (bcost n m x) := by
  unfold bcost sat
  repeat' split
  all_goals omega
theorem tcost_nonneg (a b x y : Int) (f : Bool) (ha : 1 ≤ a) (hb : 1 ≤ b) (hx : 0 ≤ x) (hy : 0 ≤ y) : 0 ≤ tcost a b x y f := by
  have p1 : 0 ≤ a * y := Int.mul_nonneg (by omega) hy
  have p2 : 0 ≤ b * x := Int.mul_nonneg (by omega) hx
  have p3 : 0 ≤ 6 * (a - 1) * (b - 1) := Int.mul_nonneg (by omega) (by omega)
  have p4 : 0 ≤ a * b := Int.mul_nonneg (by omega) (by omega)
  unfold tcost
  split <;> omega
theorem wk_range (n : Int) : 0 ≤ wk n ∧ wk n ≤ 48 := by unfold wk; repeat' split; all_goals omega
def sumI (f : Nat → Int) : Nat → Int
  | 0 => 0
  | i + 1 => sumI f i + f i
theorem sumI_mono (f : Nat → Int) {i m : Nat} (h : i ≤ m) (hf : ∀ j, j < m → 0 ≤ f j) : sumI f i ≤ sumI f m := by
  induction m with
  | zero => obtain rfl : i = 0 := by omega
            exact Int.le_refl _
  | succ m ih =>
    by_cases e : i = m + 1
    · subst e; exact Int.le_refl _
    · have := ih (by omega) fun j hj => hf j (by omega)
      have := hf m (by omega)
      show _ ≤ sumI f m + f m
      omega
theorem lt_quo {a b : Int} (ha : 0 < a) : 4611686018427387904 / a < b ↔ 4611686018427387904 < a * b := by
  rw [Int.ediv_lt_iff_lt_mul ha, Int.mul_comm]
end Go.Ord
namespace Go.Proofs.YtgjlldapnodfbaaDoor
open Go Go.RowKit Go.Fl Go.Ord

set_option maxRecDepth 100000 in
set_option maxHeartbeats 1000000 in
theorem ptimes_any (a b : Int) (w : World) (a0 : 0 ≤ a) (a1 : a ≤ 16384) (b0 : 0 ≤ b) (b1 : b ≤ 4611686018427387905) : Calls Tryd.prog 72 #[.int .i64 a, .int .i64 b] w fun e w' => e = .returned (.int .i64 (sat (a * b))) ∧ w' = w := by
  obtain ⟨P, hP⟩ : ∃ P, a * b = P := ⟨_, rfl⟩
  have hP0 : 0 ≤ P := by rw [← hP]; exact Int.mul_nonneg a0 b0
  have HQ : Hid (0 < a → (4611686018427387904 / a < b ↔ 4611686018427387904 < P)) := Lib.hid fun h => by rw [← hP]; exact lt_quo h
  have HZ : Hid (a = 0 → P = 0) := Lib.hid fun h => by rw [← hP, h]; exact Int.zero_mul _
  by_cases hc : 4611686018427387904 < P
  · have ha : 0 < a := by
      have := HZ.out
      omega
    have d1 : decide (0 < a) = true := by simpa using ha
    have d2 : decide (4611686018427387904 / a < b) = true := by simpa using (HQ.out ha).2 hc
    have e : sat P = 4611686018427387905 := sat_big _ hc
    rw [hP, e]
    have d3 := (HQ.out ha).2 hc
    clear hP hc e
    go_enter Tryd.func72, Tryd.ntmps72
    go_wp2_with fail
    go_ret
    exact ⟨rfl, rfl⟩
  · have e : sat P = P := sat_small _ (by omega)
    rw [hP, e]
    have hc' : P ≤ 4611686018427387904 := by omega
    clear e
    by_cases ha : 0 < a
    · have d1 : decide (0 < a) = true := by simpa using ha
      have d2 : decide (4611686018427387904 / a < b) = false := by simpa using fun h => hc ((HQ.out ha).1 h)
      have d3 : ¬ (4611686018427387904 / a < b) := fun h => hc ((HQ.out ha).1 h)
      go_enter Tryd.func72, Tryd.ntmps72
      go_wp2_with fail
      go_ret
      exact ⟨rfl, rfl⟩
    · have d1 : decide (0 < a) = false := by simpa using ha
      go_enter Tryd.func72, Tryd.ntmps72
      go_wp2_with fail
      go_ret
      exact ⟨rfl, rfl⟩
set_option maxRecDepth 100000 in
set_option maxHeartbeats 1000000 in
theorem pplus_any (f : Nat → Int) (m g cp : Nat) (w : World) (hm : m ≤ 1000) (hg : ∀ i, i < m → w.cell? ⟨g, i, none⟩ = some (.int .i64 (f i))) (hf : ∀ i, i < m → 0 ≤ f i ∧ f i ≤ 4611686018427387905) :
    Calls Tryd.prog 71 #[.slice (some ⟨g, 0, none⟩) m cp] w fun e w' => e = .returned (.int .i64 (sat (sumI f m))) ∧ w' = w := by
  have HF := Lib.hid hf
  have HG := Lib.hid hg
  clear hf hg
  obtain ⟨R, hR⟩ : ∃ R, sat (sumI f m) = R := ⟨_, rfl⟩
  rw [hR]
  have HR := Lib.hid hR
  clear hR
  go_enter Tryd.func71, Tryd.ntmps71
  go_wp2_with fail
  go_loopw [3, 8] (fun s y wr => ∃ i : Nat, i ≤ m ∧ y = .int .i64 i ∧ s = .int .i64 (sumI f i) ∧ 0 ≤ sumI f i ∧ sumI f i ≤ 4611686018427387904 ∧ wr = w) (fun _ y _ => m - (intOf y).toNat)
  case atStart => exact ⟨0, by omega, rfl, rfl, Int.le_refl _, show (0 : Int) ≤ 4611686018427387904 by decide, rfl⟩
  case round =>
    obtain ⟨i, hi, rfl, rfl, s0, s1, rfl⟩ := hrel
    by_cases hlt : i < m
    · have hx := HG.out i hlt
      obtain ⟨x0, x1⟩ := HF.out i hlt
      have hn : Hid (sumI f (i + 1) = sumI f i + f i ∧ sumI f (i + 1) ≤ sumI f m) := Lib.hid ⟨rfl, sumI_mono f (by omega) fun j hj => (HF.out j hj).1⟩
      obtain ⟨s, hs⟩ : ∃ s, sumI f i = s := ⟨_, rfl⟩
      obtain ⟨x, hxe⟩ : ∃ x, f i = x := ⟨_, rfl⟩
      rw [hs, hxe] at hn
      rw [hs] at s0 s1 ⊢
      rw [hxe] at hx x0 x1
      clear hs hxe
      go_wp2_with fail
      · go_ret
        refine ⟨?_, rfl⟩
        rw [← HR.out, sat_big _ (by have := hn.out; omega)]
        rfl
      · go_roundw
        case rel => exact ⟨i + 1, by omega, by go_num, by rw [hn.out.1], by rw [hn.out.1]; omega, by rw [hn.out.1]; omega, by first | rfl | trivial⟩
        case measure => simp [intOf]; omega
    · obtain rfl : m = i := by omega
      go_wp2_with fail
      go_ret
      refine ⟨?_, rfl⟩
      rw [← HR.out, sat_small _ s1]
      rfl
theorem fWork_of (n s p : Int) (h : ∀ w, Calls Tryd.prog 79 #[.int .i64 n] w fun e w' => e = .returned (.tuple #[.int .i64 s, .int .i64 p]) ∧ w' = w) (h1 : 0 ≤ s ∧ s ≤ 48 ∧ 0 ≤ p ∧ p ≤ 48) (w : World) :
    Calls Tryd.prog 57 #[.int .i64 n] w fun e w' => e = .returned (.int .i64 (s + p)) ∧ w' = w := by
  obtain ⟨s0, s1, p0, p1⟩ := h1
  go_enter Tryd.func57, Tryd.ntmps57
  go_wp2_with (go_at_call 79; (with_reducible refine (h _).mono ?_); rintro e w1 ⟨rfl, rfl⟩)
  go_ret
  exact ⟨rfl, rfl⟩
theorem fWork_any (n : Int) (w : World) : Calls Tryd.prog 57 #[.int .i64 n] w fun e w' => e = .returned (.int .i64 (wk n)) ∧ w' = w := by
  by_cases h2 : n = 2
  · subst h2
    refine fWork_of 2 4 0 (fun w => ?_) (by decide) w
    go_enter Tryd.func79, Tryd.ntmps79
    go_wp2_with fail
    go_ret2
    exact ⟨rfl, rfl⟩
  by_cases h3 : n = 3
  · subst h3
    refine fWork_of 3 12 4 (fun w => ?_) (by decide) w
    go_enter Tryd.func79, Tryd.ntmps79
    go_wp2_with fail
    go_ret2
    exact ⟨rfl, rfl⟩
  by_cases h4 : n = 4
  · subst h4
    refine fWork_of 4 16 0 (fun w => ?_) (by decide) w
    go_enter Tryd.func79, Tryd.ntmps79
    go_wp2_with fail
    go_ret2
    exact ⟨rfl, rfl⟩
  by_cases h5 : n = 5
  · subst h5
    refine fWork_of 5 32 16 (fun w => ?_) (by decide) w
    go_enter Tryd.func79, Tryd.ntmps79
    go_wp2_with fail
    go_ret2
    exact ⟨rfl, rfl⟩
  have d2 : (n == 2) = false := by simpa using h2
  have d3 : (n == 3) = false := by simpa using h3
  have d4 : (n == 4) = false := by simpa using h4
  have d5 : (n == 5) = false := by simpa using h5
  have e : wk n = 0 + 0 := by unfold wk; rw [if_neg h2, if_neg h3, if_neg h4, if_neg h5]; rfl
  rw [e]
  refine fWork_of n 0 0 (fun w => ?_) (by decide) w
  go_enter Tryd.func79, Tryd.ntmps79
  go_wp2_with fail
  go_ret2
  exact ⟨rfl, rfl⟩

/-- Two or three numbers in a list of their own. -/
theorem row2 (w : World) (a b : Value) (t : TypeId) : (w.alloc (.cells #[a, b] t)).cell? ⟨w.heap.size, 0, none⟩ = some a ∧ (w.alloc (.cells #[a, b] t)).cell? ⟨w.heap.size, 1, none⟩ = some b := by
  have h := World.ownsRow_lit (base := w.heap.size) (e := t) (size := 1) w #[a, b] 2 (Nat.le_refl _) (by decide) rfl
  exact ⟨(h.cellAt 0 (by decide)), (h.cellAt 1 (by decide))⟩
theorem pplus3 (x y z : Int) (g : Nat) (w : World) (h0 : w.cell? ⟨g, 0, none⟩ = some (.int .i64 x)) (h1 : w.cell? ⟨g, 1, none⟩ = some (.int .i64 y)) (h2 : w.cell? ⟨g, 2, none⟩ = some (.int .i64 z))
    (hx : 0 ≤ x ∧ x ≤ 4611686018427387905) (hy : 0 ≤ y ∧ y ≤ 4611686018427387905) (hz : 0 ≤ z ∧ z ≤ 4611686018427387905) :
    Calls Tryd.prog 71 #[.slice (some ⟨g, 0, none⟩) 3 3] w fun e w' => e = .returned (.int .i64 (sat (x + y + z))) ∧ w' = w := by
  have h := pplus_any (fun i => if i = 0 then x else if i = 1 then y else z) 3 g 3 w (by decide)
    (fun i hi => by
      obtain rfl | rfl | rfl : i = 0 ∨ i = 1 ∨ i = 2 := by omega
      · exact h0
      · exact h1
      · exact h2)
    (fun i hi => by
      obtain rfl | rfl | rfl : i = 0 ∨ i = 1 ∨ i = 2 := by omega
      · exact hx
      · exact hy
      · exact hz)
  have e : sumI (fun i => if i = 0 then x else if i = 1 then y else z) 3 = x + y + z := by simp [sumI]
  rw [e] at h
  exact h
theorem pplus2 (x y : Int) (g : Nat) (w : World) (h0 : w.cell? ⟨g, 0, none⟩ = some (.int .i64 x)) (h1 : w.cell? ⟨g, 1, none⟩ = some (.int .i64 y))
    (hx : 0 ≤ x ∧ x ≤ 4611686018427387905) (hy : 0 ≤ y ∧ y ≤ 4611686018427387905) :
    Calls Tryd.prog 71 #[.slice (some ⟨g, 0, none⟩) 2 2] w fun e w' => e = .returned (.int .i64 (sat (x + y))) ∧ w' = w := by
  have h := pplus_any (fun i => if i = 0 then x else y) 2 g 2 w (by decide)
    (fun i hi => by
      obtain rfl | rfl : i = 0 ∨ i = 1 := by omega
      · exact h0
      · exact h1)
    (fun i hi => by
      obtain rfl | rfl : i = 0 ∨ i = 1 := by omega
      · exact hx
      · exact hy)
  have e : sumI (fun i => if i = 0 then x else y) 2 = x + y := by simp [sumI]
  rw [e] at h
  exact h
set_option maxRecDepth 100000 in
set_option maxHeartbeats 1000000 in
theorem pblue_any (n m x : Int) (w : World) (n0 : 0 ≤ n) (n1 : n ≤ 16384) (m0 : 0 ≤ m) (m1 : m ≤ 16384) (x0 : 0 ≤ x) (x1 : x ≤ 4611686018427387905) :
    Calls Tryd.prog 51 #[.int .i64 n, .int .i64 m, .int .i64 x] w fun e w' => e = .returned (.int .i64 (sat (bcost n m x))) ∧ Kp w w' := by
  have h1 := Lib.hid fun w => ptimes_any 3 x w (by decide) (by decide) x0 x1
  obtain ⟨q0, q1⟩ := sat_range (3 * x) (by omega)
  have he : Hid (sat (sat (3 * x) + 12 * n + 10 * m) = sat (bcost n m x)) := Lib.hid (by
    have := sat_add (3 * x) (12 * n + 10 * m) (by omega)
    unfold bcost
    rw [Int.add_assoc, this, Int.add_assoc])
  obtain ⟨p, hp⟩ : ∃ p, sat (3 * x) = p := ⟨_, rfl⟩
  rw [hp] at he q0 q1 h1
  clear hp
  have h3 : Hid (∀ w : World, Calls Tryd.prog 71 #[.slice (some ⟨w.heap.size, 0, none⟩) 3 3] (w.alloc (.cells #[.int .i64 p, .int .i64 (12 * n), .int .i64 (10 * m)] 3)) fun e w' => e = .returned (.int .i64 (sat (p + 12 * n + 10 * m))) ∧ w' = w.alloc (.cells #[.int .i64 p, .int .i64 (12 * n), .int .i64 (10 * m)] 3)) := Lib.hid fun w => by
    obtain ⟨c0, c1, c2⟩ := box3 w (.int .i64 p) (.int .i64 (12 * n)) (.int .i64 (10 * m)) 3
    exact pplus3 p (12 * n) (10 * m) _ _ c0 c1 c2 ⟨q0, q1⟩ ⟨by omega, by omega⟩ ⟨by omega, by omega⟩
  rw [he.out] at h3
  go_enter Tryd.func51, Tryd.ntmps51
  go_wp2_with (first
    | (go_at_call 72; (with_reducible refine (h1.out _).mono ?_); rintro e w1 ⟨rfl, rfl⟩)
    | (go_at_call 71; (with_reducible refine (h3.out _).mono ?_); rintro e w2 ⟨rfl, rfl⟩))
  go_ret
  exact ⟨rfl, (Kp.refl _).alloc _⟩
set_option maxRecDepth 100000 in
set_option maxHeartbeats 1000000 in
theorem ptcost_any (a b x y : Int) (fly : Bool) (w : World) (a0 : 1 ≤ a) (a1 : a ≤ 16384) (b0 : 1 ≤ b) (b1 : b ≤ 16384) (x0 : 0 ≤ x) (x1 : x ≤ 4611686018427387905) (y0 : 0 ≤ y) (y1 : y ≤ 4611686018427387905) :
    Calls Tryd.prog 48 #[.int .i64 a, .int .i64 b, .int .i64 x, .int .i64 y, .bool fly] w fun e w' => e = .returned (.int .i64 (sat (tcost a b x y fly))) ∧ Kp w w' := by
  have h1 := Lib.hid fun w => ptimes_any a y w (by omega) a1 y0 y1
  have h2 := Lib.hid fun w => ptimes_any b x w (by omega) b1 x0 x1
  obtain ⟨p0, p1⟩ := sat_range (a * y) (Int.mul_nonneg (by omega) y0)
  obtain ⟨q0, q1⟩ := sat_range (b * x) (Int.mul_nonneg (by omega) x0)
  obtain ⟨R, hR⟩ : ∃ R, a * b = R := ⟨_, rfl⟩
  have R0 : 0 ≤ R := by rw [← hR]; exact Int.mul_nonneg (by omega) (by omega)
  have R1 : R ≤ 16384 * 16384 := by rw [← hR]; exact Int.mul_le_mul a1 b1 (by omega) (by omega)
  obtain ⟨S, hS⟩ : ∃ S, 6 * (a - 1) * (b - 1) = S := ⟨_, rfl⟩
  have S0 : 0 ≤ S := by rw [← hS]; exact Int.mul_nonneg (by omega) (by omega)
  have S1 : S ≤ (6 * 16384) * 16384 := by rw [← hS]; exact Int.mul_le_mul (by omega) (by omega) (by omega) (by omega)
  have he : Hid (sat (sat (a * y) + sat (b * x) + S) = sat (tcost a b x y true) ∧ sat (sat (sat (a * y) + sat (b * x) + S) + R) = sat (tcost a b x y false)) := Lib.hid (by
    have e1 : sat (sat (a * y) + sat (b * x) + S) = sat (a * y + b * x + S) := by
      have h0 : 0 ≤ b * x := Int.mul_nonneg (by omega) x0
      have h4 : 0 ≤ a * y := Int.mul_nonneg (by omega) y0
      rw [Int.add_assoc, sat_add _ _ (by omega), show a * y + (sat (b * x) + S) = sat (b * x) + (a * y + S) by omega, sat_add _ _ (by omega)]
      congr 1; omega
    rw [sat_add _ _ R0]
    rw [e1]
    unfold tcost
    rw [hR, hS]
    refine ⟨by simp, ?_⟩
    have e2 := sat_add (sat (a * y) + sat (b * x) + S) R R0
    rw [e1, sat_add _ _ R0] at e2
    rw [← e2]
    simp)
  obtain ⟨p, hp⟩ : ∃ p, sat (a * y) = p := ⟨_, rfl⟩
  obtain ⟨q, hq⟩ : ∃ q, sat (b * x) = q := ⟨_, rfl⟩
  rw [hp] at he p0 p1 h1
  rw [hq] at he q0 q1 h2
  clear hp hq
  obtain ⟨u0, u1⟩ := sat_range (p + q + S) (by omega)
  have hk1 : ∀ w : World, Kp w (w.alloc (.cells #[.int .i64 p, .int .i64 q, .int .i64 S] 3)) := fun w => (Kp.refl w).alloc _
  have h3 : Hid (∀ w : World, Calls Tryd.prog 71 #[.slice (some ⟨w.heap.size, 0, none⟩) 3 3] (w.alloc (.cells #[.int .i64 p, .int .i64 q, .int .i64 S] 3)) fun e w' => e = .returned (.int .i64 (sat (p + q + S))) ∧ w' = w.alloc (.cells #[.int .i64 p, .int .i64 q, .int .i64 S] 3)) := Lib.hid fun w => by
    obtain ⟨c0, c1, c2⟩ := box3 w (.int .i64 p) (.int .i64 q) (.int .i64 S) 3
    exact pplus3 p q S _ _ c0 c1 c2 ⟨p0, p1⟩ ⟨q0, q1⟩ ⟨S0, by omega⟩
  obtain ⟨u, hu⟩ : ∃ u, sat (p + q + S) = u := ⟨_, rfl⟩
  rw [hu] at h3 u0 u1 he
  clear hu
  have h4 : Hid (∀ (w : World) (x : Obj), Calls Tryd.prog 71 #[.slice (some ⟨w.heap.size + 1, 0, none⟩) 2 2] ((w.alloc x).alloc (.cells #[.int .i64 u, .int .i64 R] 3)) fun e w' => e = .returned (.int .i64 (sat (u + R))) ∧ w' = (w.alloc x).alloc (.cells #[.int .i64 u, .int .i64 R] 3)) := Lib.hid fun w x => by
    obtain ⟨c0, c1⟩ := row2 (w.alloc x) (.int .i64 u) (.int .i64 R) 3
    rw [World.size_alloc] at c0 c1
    exact pplus2 u R _ _ c0 c1 ⟨u0, u1⟩ ⟨R0, by omega⟩
  rw [he.out.2] at h4
  cases fly
  · go_enter Tryd.func48, Tryd.ntmps48
    go_wp2_with (first
      | (go_at_call 72; (with_reducible refine (h1.out _).mono ?_); rintro e w1 ⟨rfl, rfl⟩)
      | (go_at_call 72; (with_reducible refine (h2.out _).mono ?_); rintro e w1 ⟨rfl, rfl⟩)
      | (go_at_call 71; (with_reducible refine (h3.out _).mono ?_); rintro e w1 ⟨rfl, rfl⟩)
      | (go_at_call 71; (with_reducible refine (h4.out _ _).mono ?_); rintro e w1 ⟨rfl, rfl⟩))
    go_ret
    exact ⟨rfl, ((Kp.refl _).alloc _).alloc _⟩
  · go_enter Tryd.func48, Tryd.ntmps48
    go_wp2_with (first
      | (go_at_call 72; (with_reducible refine (h1.out _).mono ?_); rintro e w1 ⟨rfl, rfl⟩)
      | (go_at_call 72; (with_reducible refine (h2.out _).mono ?_); rintro e w1 ⟨rfl, rfl⟩)
      | (go_at_call 71; (with_reducible refine (h3.out _).mono ?_); rintro e w1 ⟨rfl, rfl⟩))
    go_ret
    exact ⟨by rw [← he.out.1]; rfl, (Kp.refl _).alloc _⟩

set_option maxRecDepth 100000 in
set_option maxHeartbeats 1000000 in
theorem rsum_any (x y : Int) (w : World) (x0 : 0 ≤ x) (x1 : x ≤ 4611686018427387905) (y0 : 0 ≤ y) (y1 : y ≤ 4611686018427387905) : Calls Tryd.prog 60 #[.int .i64 x, .int .i64 y] w fun e w' => e = .returned (.int .i64 (sat (x + y))) ∧ w' = w := by
  by_cases hc : 4611686018427387904 - y < x
  · have d : decide (4611686018427387904 - y < x) = true := by simpa using hc
    rw [sat_big _ (by omega)]
    go_enter Tryd.func60, Tryd.ntmps60
    go_wp2_with fail
    go_ret
    exact ⟨rfl, rfl⟩
  · have d : decide (4611686018427387904 - y < x) = false := by simpa using hc
    rw [sat_small _ (by omega)]
    go_enter Tryd.func60, Tryd.ntmps60
    go_wp2_with fail
    go_ret
    exact ⟨rfl, rfl⟩
set_option maxRecDepth 100000 in
set_option maxHeartbeats 1000000 in
theorem rprod_any (b a : Int) (w : World) (b0 : 0 ≤ b) (b1 : b ≤ 4611686018427387905) (a0 : 0 ≤ a) (a1 : a ≤ 16384) : Calls Tryd.prog 61 #[.int .i64 b, .int .i64 a] w fun e w' => e = .returned (.int .i64 (sat (a * b))) ∧ w' = w := by
  obtain ⟨P, hP⟩ : ∃ P, b * a = P := ⟨_, rfl⟩
  have hP' : a * b = P := by rw [Int.mul_comm]; exact hP
  have hP0 : 0 ≤ P := by rw [← hP]; exact Int.mul_nonneg b0 a0
  have HQ : Hid (0 < a → (4611686018427387904 / a < b ↔ 4611686018427387904 < P)) := Lib.hid fun h => by rw [← hP']; exact lt_quo h
  have HZ : Hid (a = 0 → P = 0) := Lib.hid fun h => by rw [← hP, h]; exact Int.mul_zero _
  rw [hP']
  clear hP'
  by_cases hc : 4611686018427387904 < P
  · have ha : 0 < a := by
      have := HZ.out
      omega
    have d1 : decide (0 < a) = true := by simpa using ha
    have d2 : decide (4611686018427387904 / a < b) = true := by simpa using (HQ.out ha).2 hc
    have e : sat P = 4611686018427387905 := sat_big _ hc
    rw [e]
    have d3 := (HQ.out ha).2 hc
    clear hP hc e
    go_enter Tryd.func61, Tryd.ntmps61
    go_wp2_with fail
    go_ret
    exact ⟨rfl, rfl⟩
  · have e : sat P = P := sat_small _ (by omega)
    rw [e]
    have hc' : P ≤ 4611686018427387904 := by omega
    clear e
    by_cases ha : 0 < a
    · have d1 : decide (0 < a) = true := by simpa using ha
      have d2 : decide (4611686018427387904 / a < b) = false := by simpa using fun h => hc ((HQ.out ha).1 h)
      have d3 : ¬ (4611686018427387904 / a < b) := fun h => hc ((HQ.out ha).1 h)
      go_enter Tryd.func61, Tryd.ntmps61
      go_wp2_with fail
      go_ret
      exact ⟨rfl, rfl⟩
    · have d1 : decide (0 < a) = false := by simpa using ha
      go_enter Tryd.func61, Tryd.ntmps61
      go_wp2_with fail
      go_ret
      exact ⟨rfl, rfl⟩
set_option maxRecDepth 100000 in
set_option maxHeartbeats 1000000 in
theorem rtcost_any (k a b x y : Int) (w : World) (a0 : 1 ≤ a) (a1 : a ≤ 16384) (b0 : 1 ≤ b) (b1 : b ≤ 16384) (x0 : 0 ≤ x) (x1 : x ≤ 4611686018427387905) (y0 : 0 ≤ y) (y1 : y ≤ 4611686018427387905) :
    Calls Tryd.prog 53 #[.int .i64 k, .int .i64 x, .int .i64 a, .int .i64 y, .int .i64 b] w fun e w' => e = .returned (.int .i64 (sat (tcost a b x y (k == 2)))) ∧ w' = w := by
  have h1 := Lib.hid fun w => rprod_any y a w y0 y1 (by omega) a1
  have h2 := Lib.hid fun w => rprod_any x b w x0 x1 (by omega) b1
  obtain ⟨p0, p1⟩ := sat_range (a * y) (Int.mul_nonneg (by omega) y0)
  obtain ⟨q0, q1⟩ := sat_range (b * x) (Int.mul_nonneg (by omega) x0)
  obtain ⟨R, hR⟩ : ∃ R, a * b = R := ⟨_, rfl⟩
  have R0 : 0 ≤ R := by rw [← hR]; exact Int.mul_nonneg (by omega) (by omega)
  have R1 : R ≤ 16384 * 16384 := by rw [← hR]; exact Int.mul_le_mul a1 b1 (by omega) (by omega)
  obtain ⟨S, hS⟩ : ∃ S, 6 * (a - 1) * (b - 1) = S := ⟨_, rfl⟩
  have S0 : 0 ≤ S := by rw [← hS]; exact Int.mul_nonneg (by omega) (by omega)
  have S1 : S ≤ (6 * 16384) * 16384 := by rw [← hS]; exact Int.mul_le_mul (by omega) (by omega) (by omega) (by omega)
  have he : Hid (sat (sat (sat (a * y) + sat (b * x)) + S) = sat (tcost a b x y true) ∧ sat (sat (sat (sat (a * y) + sat (b * x)) + S) + R) = sat (tcost a b x y false)) := Lib.hid (by
    have h0 : 0 ≤ b * x := Int.mul_nonneg (by omega) x0
    have h4 : 0 ≤ a * y := Int.mul_nonneg (by omega) y0
    have e1 : sat (sat (sat (a * y) + sat (b * x)) + S) = sat (a * y + b * x + S) := by
      rw [sat_add _ _ S0, Int.add_assoc, sat_add _ _ (by omega), show a * y + (sat (b * x) + S) = sat (b * x) + (a * y + S) by omega, sat_add _ _ (by omega)]
      congr 1; omega
    rw [e1, sat_add _ _ R0]
    unfold tcost
    rw [hR, hS]
    refine ⟨by simp, by simp⟩)
  obtain ⟨p, hp⟩ : ∃ p, sat (a * y) = p := ⟨_, rfl⟩
  obtain ⟨q, hq⟩ : ∃ q, sat (b * x) = q := ⟨_, rfl⟩
  rw [hp] at he p0 p1 h1
  rw [hq] at he q0 q1 h2
  clear hp hq
  obtain ⟨t0, t1⟩ := sat_range (p + q) (by omega)
  have h3 := Lib.hid fun w => rsum_any p q w p0 p1 q0 q1
  obtain ⟨t, ht⟩ : ∃ t, sat (p + q) = t := ⟨_, rfl⟩
  rw [ht] at h3 t0 t1 he
  clear ht
  obtain ⟨u0, u1⟩ := sat_range (t + S) (by omega)
  have h4 := Lib.hid fun w => rsum_any t S w t0 t1 S0 (by omega)
  obtain ⟨u, hu⟩ : ∃ u, sat (t + S) = u := ⟨_, rfl⟩
  rw [hu] at h4 u0 u1 he
  clear hu
  have h5 := Lib.hid fun w => rsum_any u R w u0 u1 R0 (by omega)
  rw [he.out.2] at h5
  by_cases hk : k = 2
  · subst hk
    rw [show ((2 : Int) == 2) = true by decide]
    go_enter Tryd.func53, Tryd.ntmps53
    go_wp2_with (first
      | (go_at_call 61; (with_reducible refine (h1.out _).mono ?_); rintro e w1 ⟨rfl, rfl⟩)
      | (go_at_call 61; (with_reducible refine (h2.out _).mono ?_); rintro e w1 ⟨rfl, rfl⟩)
      | (go_at_call 60; (with_reducible refine (h3.out _).mono ?_); rintro e w1 ⟨rfl, rfl⟩)
      | (go_at_call 60; (with_reducible refine (h4.out _).mono ?_); rintro e w1 ⟨rfl, rfl⟩))
    go_ret
    exact ⟨by rw [← he.out.1]; rfl, rfl⟩
  · have d : (k == 2) = false := by simpa using hk
    have d' : (k != 2) = true := by simpa using hk
    rw [d]
    go_enter Tryd.func53, Tryd.ntmps53
    go_wp2_with (first
      | (go_at_call 61; (with_reducible refine (h1.out _).mono ?_); rintro e w1 ⟨rfl, rfl⟩)
      | (go_at_call 61; (with_reducible refine (h2.out _).mono ?_); rintro e w1 ⟨rfl, rfl⟩)
      | (go_at_call 60; (with_reducible refine (h3.out _).mono ?_); rintro e w1 ⟨rfl, rfl⟩)
      | (go_at_call 60; (with_reducible refine (h4.out _).mono ?_); rintro e w1 ⟨rfl, rfl⟩)
      | (go_at_call 60; (with_reducible refine (h5.out _).mono ?_); rintro e w1 ⟨rfl, rfl⟩))
    go_ret
    exact ⟨rfl, rfl⟩
end Go.Proofs.YtgjlldapnodfbaaDoor
