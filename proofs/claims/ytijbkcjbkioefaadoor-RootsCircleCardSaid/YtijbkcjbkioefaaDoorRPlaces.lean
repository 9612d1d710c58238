/-
  The walk of RootsPlaces: the exact places; no part is -0.
-/
import Derived.Test.YtijbkcjbkioefaaDoorRTwist
namespace Go.Proofs.YtijbkcjbkioefaaDoor
open Go Go.RowKit Go.Fl Go.Roots

/-- The root at q quarter turns. -/
def rq (q : Nat) : Nat × Nat := (plus (rot q (ONE, 0)).1, plus (neg (plus (rot q (ONE, 0)).2)))
theorem root_quarter (n k : Int) (q : Nat) (hn : 1 ≤ n) (h : 4 * (k % n) = q * n) : root n k = rq q := by
  have e1 : 4 * (k % n) / n = q := by rw [h]; exact Int.mul_ediv_cancel _ (by omega)
  have e2 : 4 * (k % n) % n = 0 := by rw [h]; exact Int.mul_emod_left _ _
  unfold root pair pairP
  rw [e1, e2]
  have e3 : octant 0 n = (ONE, 0) := by
    unfold octant; rw [if_pos (by omega)]; unfold eighth; rw [if_pos rfl]
  rw [e3]; rfl
theorem root_eighth (n : Int) (hn : 1 ≤ n) (h : n % 8 = 0) : root n (n / 8) = (HALF, neg HALF) := by
  have a : n / 8 % n = n / 8 := Int.emod_eq_of_lt (by omega) (by omega)
  have e1 : 4 * (n / 8 % n) / n = 0 := by rw [a]; exact Int.ediv_eq_zero_of_lt (by omega) (by omega)
  have e2 : 4 * (n / 8 % n) % n = n / 2 := by rw [a, Int.emod_eq_of_lt (by omega) (by omega)]; omega
  have e3 : octant (n / 2) n = (HALF, HALF) := by
    unfold octant; rw [if_pos (by omega)]; unfold eighth; rw [if_neg (by omega), if_pos (by omega)]
  unfold root pair pairP
  rw [e1, e2, e3]
  decide +kernel
theorem quarter0 (n : Int) (hn : 1 ≤ n) : root n 0 = rq 0 := root_quarter n 0 0 hn (by simp)
theorem quarter1 (n : Int) (hn : 1 ≤ n) (h : n % 4 = 0) : root n (n / 4) = rq 1 := root_quarter n _ 1 hn (by
  rw [Int.emod_eq_of_lt (by omega) (by omega)]; omega)
theorem quarter2 (n : Int) (hn : 1 ≤ n) (h : 2 * n % 4 = 0) : root n (2 * n / 4) = rq 2 := root_quarter n _ 2 hn (by
  rw [Int.emod_eq_of_lt (by omega) (by omega)]; omega)
theorem quarter3 (n : Int) (hn : 1 ≤ n) (h : 3 * n % 4 = 0) : root n (3 * n / 4) = rq 3 := root_quarter n _ 3 hn (by
  rw [Int.emod_eq_of_lt (by omega) (by omega)]; omega)

theorem plus_zero (x : Nat) (h : (ord (plus x) 0 == some .eq) = true) : plus x = 0 := by
  unfold plus at h ⊢
  split
  · rfl
  · rename_i h2; rw [if_neg h2] at h; exact absurd h h2
theorem raw_zero {c : Nat} (h : cn c = 0) : c = 0 := by
  unfold cn at h
  split at h
  · exact absurd h (by decide)
  · exact h
theorem root_zero1 {c : Nat} {n k : Int} (hc : cn c = (root n k).1) (h : (ord (root n k).1 0 == some .eq) = true) : c = 0 :=
  raw_zero (hc.trans (plus_zero _ h))
theorem root_zero2 {c : Nat} {n k : Int} (hc : cn c = (root n k).2) (h : (ord (root n k).2 0 == some .eq) = true) : c = 0 :=
  raw_zero (hc.trans (plus_zero _ h))

set_option maxHeartbeats 400000 in
theorem Signbit_zero (w : World) :
    Calls Tryd.prog 17 #[.float .f64 0] w fun e w' => e = .returned (.bool false) ∧ w = w' := by
  go_enter Tryd.func17, Tryd.ntmps17
  go_wp2_with fail
  go_ret
  exact ⟨rfl, rfl⟩

set_option maxHeartbeats 400000 in
theorem fit_any (n k : Int) (w : World) (_hn : (Lit.int .i64 n).wf = true) :
    Calls Tryd.prog 15 #[.int .i64 n, .int .i64 k] w fun e w' => ∃ k', e = .returned (.tuple #[.int .i64 (1 + n % 4194304), .int .i64 k']) ∧ -1099511627776 < k' ∧ k' < 1099511627776 ∧ w = w' := by
  have hl : -1099511627776 < k.tmod 1099511627776 ∧ k.tmod 1099511627776 < 1099511627776 := by
    have h := Int.tmod_lt_of_pos k (show (0 : Int) < 1099511627776 by omega)
    have h' := Int.lt_tmod_of_pos k (show (0 : Int) < 1099511627776 by omega)
    omega
  obtain ⟨l1, l2⟩ := hl
  go_enter Tryd.func15, Tryd.ntmps15
  go_wp2_with fail
  go_ret2
  refine ⟨_, ?_, l1, l2, rfl⟩
  have e : wrap64 (1 + wrap64 ((IntKind.u64.wrap n).tmod 4194304)) = 1 + n % 4194304 := by
    rw [show IntKind.u64.wrap n = n % 18446744073709551616 from rfl, Int.tmod_eq_emod_of_nonneg (by omega)]
    unfold wrap64
    omega
  exact congrArg (fun x => Ending.returned (.tuple #[.int .i64 x, .int .i64 (k.tmod 1099511627776)])) e

theorem pl_a : (ord (rq 0).1 (cn 4607182418800017408) == some .eq) = true := by decide +kernel
theorem pl_b : (ord (rq 0).2 0 == some .eq) = true := by decide +kernel
theorem pl_c : (ord (rq 1).1 0 == some .eq) = true := by decide +kernel
theorem pl_d : (ord (rq 1).2 (cn 13830554455654793216) == some .eq) = true := by decide +kernel
theorem pl_e : (ord (rq 2).1 (cn 13830554455654793216) == some .eq) = true := by decide +kernel
theorem pl_f : (ord (rq 2).2 0 == some .eq) = true := by decide +kernel
theorem pl_g : (ord (rq 3).1 0 == some .eq) = true := by decide +kernel
theorem pl_h : (ord (rq 3).2 (cn 4607182418800017408) == some .eq) = true := by decide +kernel
theorem pl_i : (ord HALF (neg (neg HALF)) != some .eq) = false := by decide +kernel
theorem pl_j : (ord HALF (cn 4604480259023595110) == some .lt) = false := by decide +kernel

/-- What the walk behind the first tests says, whatever the root at hand. -/
def Turns (wr : World) (g : Nat) : Prop :=
  wr.cell? ⟨g, 0, none⟩ = some (.complex .f64 4607182418800017408 0) ∧ wr.cell? ⟨g, 1, none⟩ = some (.complex .f64 0 13830554455654793216) ∧
  wr.cell? ⟨g, 2, none⟩ = some (.complex .f64 13830554455654793216 0) ∧ wr.cell? ⟨g, 3, none⟩ = some (.complex .f64 0 4607182418800017408)
theorem Turns.kp {w w' : World} {g : Nat} (h : Turns w g) (k : Kp w w') : Turns w' g := ⟨k.later h.1, k.later h.2.1, k.later h.2.2.1, k.later h.2.2.2⟩

set_option maxRecDepth 100000 in
set_option maxHeartbeats 1000000 in
theorem walk_RootsPlaces (n0 : Int) (hwn : (Lit.int .i64 n0).wf = true) (k0 : Int) (_ : (Lit.int .i64 k0).wf = true) (w : World) :
    Calls Tryd.prog 4 #[.int .i64 n0, .int .i64 k0] w fun e w' => e = .returned (.bool true) ∧ Kp w w' := by
  have e0 := cn_0
  go_enter Tryd.func4, Tryd.ntmps4
  go_wp2_with fail
  refine (lives_any _).mono ?_
  rintro e w1 ⟨rfl, hk1⟩
  go_wp2_with fail
  refine (fit_any _ _ _ hwn).mono ?_
  rintro e w2 ⟨k, rfl, kl, ku, rfl⟩
  have n1 : 1 ≤ 1 + n0 % 4194304 := by omega
  have n2 : 1 + n0 % 4194304 ≤ 4194304 := by omega
  generalize 1 + n0 % 4194304 = n at n1 n2 ⊢
  go_wp2_with fail
  refine (Root_any _ _ _ n1 n2).mono ?_
  rintro e w3 ⟨c, s, rfl, hc, hs, hk3⟩
  by_cases z1 : (ord (root n k).1 0 == some .eq) = true
  · obtain rfl := root_zero1 hc z1
    by_cases z2 : (ord (root n k).2 0 == some .eq) = true
    · obtain rfl := root_zero2 hs z2
      have z0 : (ord 0 0 != some .eq) = false := by decide +kernel
      clear hc hs z1 z2
      go_wp2_with (go_at_call 17; (with_reducible refine (Signbit_zero _).mono ?_); rintro e w4 ⟨rfl, rfl⟩)
      go_loopw [7, 8, 9, 10, 55] (fun _ _ _ _ c wr => ∃ j : Nat, j ≤ 4 ∧ c = .int .i64 j ∧ Turns wr w3.heap.size ∧ Kp w wr) (fun _ _ _ _ c _ => 4 - (intOf c).toNat)
      case atStart => exact ⟨0, by omega, rfl, by simp [Turns, go_sem], (hk1.trans hk3).alloc _⟩
      case round =>
        obtain ⟨j, hj, rfl, hT, hkk⟩ := hrel
        obtain ⟨t0, t1, t2, t3⟩ := id hT
        have hj' : j = 0 ∨ j = 1 ∨ j = 2 ∨ j = 3 ∨ j = 4 := by omega
        clear hj
        rcases hj' with rfl | rfl | rfl | rfl | rfl
        · have hr := quarter0 n n1
          have p1 := pl_a
          have p2 := pl_b
          go_wp2_with (go_at_call 16; (with_reducible refine (Root_any _ _ _ n1 n2).mono ?_); rintro e w5 ⟨c5, s5, rfl, hc5, hs5, hk5⟩)
          go_roundw
          case rel => exact ⟨1, by omega, rfl, hT.kp hk5, hkk.trans hk5⟩
          case measure => simp [intOf]
        · by_cases h4 : n % 4 = 0
          · have hr := quarter1 n n1 h4
            have hb : (n % 4 != 0) = false := by simp [h4]
            have p1 := pl_c
            have p2 := pl_d
            clear h4
            go_wp2_with (go_at_call 16; (with_reducible refine (Root_any _ _ _ n1 n2).mono ?_); rintro e w5 ⟨c5, s5, rfl, hc5, hs5, hk5⟩)
            go_roundw
            case rel => exact ⟨1 + 1, by omega, rfl, hT.kp hk5, hkk.trans hk5⟩
            case measure => simp [intOf]
          · have hb : (n % 4 != 0) = true := by simp [h4]
            clear h4
            go_wp2_with fail
            go_roundw
            case rel => exact ⟨1 + 1, by omega, rfl, hT, hkk⟩
            case measure => simp [intOf]
        · by_cases h4 : 2 * n % 4 = 0
          · have hr := quarter2 n n1 h4
            have hb : (2 * n % 4 != 0) = false := by simp [h4]
            have p1 := pl_e
            have p2 := pl_f
            clear h4
            go_wp2_with (go_at_call 16; (with_reducible refine (Root_any _ _ _ n1 n2).mono ?_); rintro e w5 ⟨c5, s5, rfl, hc5, hs5, hk5⟩)
            go_roundw
            case rel => exact ⟨2 + 1, by omega, rfl, hT.kp hk5, hkk.trans hk5⟩
            case measure => simp [intOf]
          · have hb : (2 * n % 4 != 0) = true := by simp [h4]
            clear h4
            go_wp2_with fail
            go_roundw
            case rel => exact ⟨2 + 1, by omega, rfl, hT, hkk⟩
            case measure => simp [intOf]
        · by_cases h4 : 3 * n % 4 = 0
          · have hr := quarter3 n n1 h4
            have hb : (3 * n % 4 != 0) = false := by simp [h4]
            have p1 := pl_g
            have p2 := pl_h
            clear h4
            go_wp2_with (go_at_call 16; (with_reducible refine (Root_any _ _ _ n1 n2).mono ?_); rintro e w5 ⟨c5, s5, rfl, hc5, hs5, hk5⟩)
            go_roundw
            case rel => exact ⟨3 + 1, by omega, rfl, hT.kp hk5, hkk.trans hk5⟩
            case measure => simp [intOf]
          · have hb : (3 * n % 4 != 0) = true := by simp [h4]
            clear h4
            go_wp2_with fail
            go_roundw
            case rel => exact ⟨3 + 1, by omega, rfl, hT, hkk⟩
            case measure => simp [intOf]
        · clear t0 t1 t2 t3
          by_cases h8 : n % 8 = 0
          · have hr := root_eighth n n1 h8
            have hb : (n % 8 == 0) = true := by simp [h8]
            have p1 := pl_i
            have p2 := pl_j
            clear h8
            go_wp2_with (go_at_call 16; (with_reducible refine (Root_any _ _ _ n1 n2).mono ?_); rintro e w5 ⟨c5, s5, rfl, hc5, hs5, hk5⟩)
            go_ret
            exact ⟨rfl, hkk.trans hk5⟩
          · have hb : (n % 8 == 0) = false := by simp [h8]
            clear h8
            go_wp2_with fail
            go_ret
            exact ⟨rfl, hkk⟩
    · have z0 : (ord 0 0 != some .eq) = false := by decide +kernel
      have z3 : (ord (root n k).2 0 != some .eq) = true := by rw [bne, Bool.not_eq_true']; simpa using z2
      clear hc z1 z2
      go_wp2_with (go_at_call 17; (with_reducible refine (Signbit_zero _).mono ?_); rintro e w4 ⟨rfl, rfl⟩)
      go_loopw [7, 8, 9, 10, 55] (fun _ _ _ _ c wr => ∃ j : Nat, j ≤ 4 ∧ c = .int .i64 j ∧ Turns wr w3.heap.size ∧ Kp w wr) (fun _ _ _ _ c _ => 4 - (intOf c).toNat)
      case atStart => exact ⟨0, by omega, rfl, by simp [Turns, go_sem], (hk1.trans hk3).alloc _⟩
      case round =>
        obtain ⟨j, hj, rfl, hT, hkk⟩ := hrel
        obtain ⟨t0, t1, t2, t3⟩ := id hT
        have hj' : j = 0 ∨ j = 1 ∨ j = 2 ∨ j = 3 ∨ j = 4 := by omega
        clear hj
        rcases hj' with rfl | rfl | rfl | rfl | rfl
        · have hr := quarter0 n n1
          have p1 := pl_a
          have p2 := pl_b
          go_wp2_with (go_at_call 16; (with_reducible refine (Root_any _ _ _ n1 n2).mono ?_); rintro e w5 ⟨c5, s5, rfl, hc5, hs5, hk5⟩)
          go_roundw
          case rel => exact ⟨1, by omega, rfl, hT.kp hk5, hkk.trans hk5⟩
          case measure => simp [intOf]
        · by_cases h4 : n % 4 = 0
          · have hr := quarter1 n n1 h4
            have hb : (n % 4 != 0) = false := by simp [h4]
            have p1 := pl_c
            have p2 := pl_d
            clear h4
            go_wp2_with (go_at_call 16; (with_reducible refine (Root_any _ _ _ n1 n2).mono ?_); rintro e w5 ⟨c5, s5, rfl, hc5, hs5, hk5⟩)
            go_roundw
            case rel => exact ⟨1 + 1, by omega, rfl, hT.kp hk5, hkk.trans hk5⟩
            case measure => simp [intOf]
          · have hb : (n % 4 != 0) = true := by simp [h4]
            clear h4
            go_wp2_with fail
            go_roundw
            case rel => exact ⟨1 + 1, by omega, rfl, hT, hkk⟩
            case measure => simp [intOf]
        · by_cases h4 : 2 * n % 4 = 0
          · have hr := quarter2 n n1 h4
            have hb : (2 * n % 4 != 0) = false := by simp [h4]
            have p1 := pl_e
            have p2 := pl_f
            clear h4
            go_wp2_with (go_at_call 16; (with_reducible refine (Root_any _ _ _ n1 n2).mono ?_); rintro e w5 ⟨c5, s5, rfl, hc5, hs5, hk5⟩)
            go_roundw
            case rel => exact ⟨2 + 1, by omega, rfl, hT.kp hk5, hkk.trans hk5⟩
            case measure => simp [intOf]
          · have hb : (2 * n % 4 != 0) = true := by simp [h4]
            clear h4
            go_wp2_with fail
            go_roundw
            case rel => exact ⟨2 + 1, by omega, rfl, hT, hkk⟩
            case measure => simp [intOf]
        · by_cases h4 : 3 * n % 4 = 0
          · have hr := quarter3 n n1 h4
            have hb : (3 * n % 4 != 0) = false := by simp [h4]
            have p1 := pl_g
            have p2 := pl_h
            clear h4
            go_wp2_with (go_at_call 16; (with_reducible refine (Root_any _ _ _ n1 n2).mono ?_); rintro e w5 ⟨c5, s5, rfl, hc5, hs5, hk5⟩)
            go_roundw
            case rel => exact ⟨3 + 1, by omega, rfl, hT.kp hk5, hkk.trans hk5⟩
            case measure => simp [intOf]
          · have hb : (3 * n % 4 != 0) = true := by simp [h4]
            clear h4
            go_wp2_with fail
            go_roundw
            case rel => exact ⟨3 + 1, by omega, rfl, hT, hkk⟩
            case measure => simp [intOf]
        · clear t0 t1 t2 t3
          by_cases h8 : n % 8 = 0
          · have hr := root_eighth n n1 h8
            have hb : (n % 8 == 0) = true := by simp [h8]
            have p1 := pl_i
            have p2 := pl_j
            clear h8
            go_wp2_with (go_at_call 16; (with_reducible refine (Root_any _ _ _ n1 n2).mono ?_); rintro e w5 ⟨c5, s5, rfl, hc5, hs5, hk5⟩)
            go_ret
            exact ⟨rfl, hkk.trans hk5⟩
          · have hb : (n % 8 == 0) = false := by simp [h8]
            clear h8
            go_wp2_with fail
            go_ret
            exact ⟨rfl, hkk⟩
  · have z4 : (ord (root n k).1 0 != some .eq) = true := by rw [bne, Bool.not_eq_true']; simpa using z1
    by_cases z2 : (ord (root n k).2 0 == some .eq) = true
    · obtain rfl := root_zero2 hs z2
      have z0 : (ord 0 0 != some .eq) = false := by decide +kernel
      clear hs z1 z2
      go_wp2_with (go_at_call 17; (with_reducible refine (Signbit_zero _).mono ?_); rintro e w4 ⟨rfl, rfl⟩)
      go_loopw [7, 8, 9, 10, 55] (fun _ _ _ _ c wr => ∃ j : Nat, j ≤ 4 ∧ c = .int .i64 j ∧ Turns wr w3.heap.size ∧ Kp w wr) (fun _ _ _ _ c _ => 4 - (intOf c).toNat)
      case atStart => exact ⟨0, by omega, rfl, by simp [Turns, go_sem], (hk1.trans hk3).alloc _⟩
      case round =>
        obtain ⟨j, hj, rfl, hT, hkk⟩ := hrel
        obtain ⟨t0, t1, t2, t3⟩ := id hT
        have hj' : j = 0 ∨ j = 1 ∨ j = 2 ∨ j = 3 ∨ j = 4 := by omega
        clear hj
        rcases hj' with rfl | rfl | rfl | rfl | rfl
        · have hr := quarter0 n n1
          have p1 := pl_a
          have p2 := pl_b
          go_wp2_with (go_at_call 16; (with_reducible refine (Root_any _ _ _ n1 n2).mono ?_); rintro e w5 ⟨c5, s5, rfl, hc5, hs5, hk5⟩)
          go_roundw
          case rel => exact ⟨1, by omega, rfl, hT.kp hk5, hkk.trans hk5⟩
          case measure => simp [intOf]
        · by_cases h4 : n % 4 = 0
          · have hr := quarter1 n n1 h4
            have hb : (n % 4 != 0) = false := by simp [h4]
            have p1 := pl_c
            have p2 := pl_d
            clear h4
            go_wp2_with (go_at_call 16; (with_reducible refine (Root_any _ _ _ n1 n2).mono ?_); rintro e w5 ⟨c5, s5, rfl, hc5, hs5, hk5⟩)
            go_roundw
            case rel => exact ⟨1 + 1, by omega, rfl, hT.kp hk5, hkk.trans hk5⟩
            case measure => simp [intOf]
          · have hb : (n % 4 != 0) = true := by simp [h4]
            clear h4
            go_wp2_with fail
            go_roundw
            case rel => exact ⟨1 + 1, by omega, rfl, hT, hkk⟩
            case measure => simp [intOf]
        · by_cases h4 : 2 * n % 4 = 0
          · have hr := quarter2 n n1 h4
            have hb : (2 * n % 4 != 0) = false := by simp [h4]
            have p1 := pl_e
            have p2 := pl_f
            clear h4
            go_wp2_with (go_at_call 16; (with_reducible refine (Root_any _ _ _ n1 n2).mono ?_); rintro e w5 ⟨c5, s5, rfl, hc5, hs5, hk5⟩)
            go_roundw
            case rel => exact ⟨2 + 1, by omega, rfl, hT.kp hk5, hkk.trans hk5⟩
            case measure => simp [intOf]
          · have hb : (2 * n % 4 != 0) = true := by simp [h4]
            clear h4
            go_wp2_with fail
            go_roundw
            case rel => exact ⟨2 + 1, by omega, rfl, hT, hkk⟩
            case measure => simp [intOf]
        · by_cases h4 : 3 * n % 4 = 0
          · have hr := quarter3 n n1 h4
            have hb : (3 * n % 4 != 0) = false := by simp [h4]
            have p1 := pl_g
            have p2 := pl_h
            clear h4
            go_wp2_with (go_at_call 16; (with_reducible refine (Root_any _ _ _ n1 n2).mono ?_); rintro e w5 ⟨c5, s5, rfl, hc5, hs5, hk5⟩)
            go_roundw
            case rel => exact ⟨3 + 1, by omega, rfl, hT.kp hk5, hkk.trans hk5⟩
            case measure => simp [intOf]
          · have hb : (3 * n % 4 != 0) = true := by simp [h4]
            clear h4
            go_wp2_with fail
            go_roundw
            case rel => exact ⟨3 + 1, by omega, rfl, hT, hkk⟩
            case measure => simp [intOf]
        · clear t0 t1 t2 t3
          by_cases h8 : n % 8 = 0
          · have hr := root_eighth n n1 h8
            have hb : (n % 8 == 0) = true := by simp [h8]
            have p1 := pl_i
            have p2 := pl_j
            clear h8
            go_wp2_with (go_at_call 16; (with_reducible refine (Root_any _ _ _ n1 n2).mono ?_); rintro e w5 ⟨c5, s5, rfl, hc5, hs5, hk5⟩)
            go_ret
            exact ⟨rfl, hkk.trans hk5⟩
          · have hb : (n % 8 == 0) = false := by simp [h8]
            clear h8
            go_wp2_with fail
            go_ret
            exact ⟨rfl, hkk⟩
    · have z3 : (ord (root n k).2 0 != some .eq) = true := by rw [bne, Bool.not_eq_true']; simpa using z2
      clear z1 z2
      go_wp2_with (go_at_call 17; (with_reducible refine (Signbit_zero _).mono ?_); rintro e w4 ⟨rfl, rfl⟩)
      go_loopw [7, 8, 9, 10, 55] (fun _ _ _ _ c wr => ∃ j : Nat, j ≤ 4 ∧ c = .int .i64 j ∧ Turns wr w3.heap.size ∧ Kp w wr) (fun _ _ _ _ c _ => 4 - (intOf c).toNat)
      case atStart => exact ⟨0, by omega, rfl, by simp [Turns, go_sem], (hk1.trans hk3).alloc _⟩
      case round =>
        obtain ⟨j, hj, rfl, hT, hkk⟩ := hrel
        obtain ⟨t0, t1, t2, t3⟩ := id hT
        have hj' : j = 0 ∨ j = 1 ∨ j = 2 ∨ j = 3 ∨ j = 4 := by omega
        clear hj
        rcases hj' with rfl | rfl | rfl | rfl | rfl
        · have hr := quarter0 n n1
          have p1 := pl_a
          have p2 := pl_b
          go_wp2_with (go_at_call 16; (with_reducible refine (Root_any _ _ _ n1 n2).mono ?_); rintro e w5 ⟨c5, s5, rfl, hc5, hs5, hk5⟩)
          go_roundw
          case rel => exact ⟨1, by omega, rfl, hT.kp hk5, hkk.trans hk5⟩
          case measure => simp [intOf]
        · by_cases h4 : n % 4 = 0
          · have hr := quarter1 n n1 h4
            have hb : (n % 4 != 0) = false := by simp [h4]
            have p1 := pl_c
            have p2 := pl_d
            clear h4
            go_wp2_with (go_at_call 16; (with_reducible refine (Root_any _ _ _ n1 n2).mono ?_); rintro e w5 ⟨c5, s5, rfl, hc5, hs5, hk5⟩)
            go_roundw
            case rel => exact ⟨1 + 1, by omega, rfl, hT.kp hk5, hkk.trans hk5⟩
            case measure => simp [intOf]
          · have hb : (n % 4 != 0) = true := by simp [h4]
            clear h4
            go_wp2_with fail
            go_roundw
            case rel => exact ⟨1 + 1, by omega, rfl, hT, hkk⟩
            case measure => simp [intOf]
        · by_cases h4 : 2 * n % 4 = 0
          · have hr := quarter2 n n1 h4
            have hb : (2 * n % 4 != 0) = false := by simp [h4]
            have p1 := pl_e
            have p2 := pl_f
            clear h4
            go_wp2_with (go_at_call 16; (with_reducible refine (Root_any _ _ _ n1 n2).mono ?_); rintro e w5 ⟨c5, s5, rfl, hc5, hs5, hk5⟩)
            go_roundw
            case rel => exact ⟨2 + 1, by omega, rfl, hT.kp hk5, hkk.trans hk5⟩
            case measure => simp [intOf]
          · have hb : (2 * n % 4 != 0) = true := by simp [h4]
            clear h4
            go_wp2_with fail
            go_roundw
            case rel => exact ⟨2 + 1, by omega, rfl, hT, hkk⟩
            case measure => simp [intOf]
        · by_cases h4 : 3 * n % 4 = 0
          · have hr := quarter3 n n1 h4
            have hb : (3 * n % 4 != 0) = false := by simp [h4]
            have p1 := pl_g
            have p2 := pl_h
            clear h4
            go_wp2_with (go_at_call 16; (with_reducible refine (Root_any _ _ _ n1 n2).mono ?_); rintro e w5 ⟨c5, s5, rfl, hc5, hs5, hk5⟩)
            go_roundw
            case rel => exact ⟨3 + 1, by omega, rfl, hT.kp hk5, hkk.trans hk5⟩
            case measure => simp [intOf]
          · have hb : (3 * n % 4 != 0) = true := by simp [h4]
            clear h4
            go_wp2_with fail
            go_roundw
            case rel => exact ⟨3 + 1, by omega, rfl, hT, hkk⟩
            case measure => simp [intOf]
        · clear t0 t1 t2 t3
          by_cases h8 : n % 8 = 0
          · have hr := root_eighth n n1 h8
            have hb : (n % 8 == 0) = true := by simp [h8]
            have p1 := pl_i
            have p2 := pl_j
            clear h8
            go_wp2_with (go_at_call 16; (with_reducible refine (Root_any _ _ _ n1 n2).mono ?_); rintro e w5 ⟨c5, s5, rfl, hc5, hs5, hk5⟩)
            go_ret
            exact ⟨rfl, hkk.trans hk5⟩
          · have hb : (n % 8 == 0) = false := by simp [h8]
            clear h8
            go_wp2_with fail
            go_ret
            exact ⟨rfl, hkk⟩
end Go.Proofs.YtijbkcjbkioefaaDoor
