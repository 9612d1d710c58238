/-
  The reference's cost and Cost.
-/
import Derived.Test.YtgjlldapnodfbaaDoorOCost3
namespace Go.Proofs.YtgjlldapnodfbaaDoor
open Go Go.RowKit Go.Fl Go.Ord

theorem mul3 (x : Int) : (3 : Int) * x = 3 * x := rfl
set_option maxRecDepth 100000 in
set_option maxHeartbeats 2000000 in
theorem rcost_any (T : Tr) : ∀ (v : Value) (w : World), OIn w T v → T.len ≠ 0 → Calls Tryd.prog 36 #[v] w fun e w' => e = .returned (.tuple #[.int .i64 (sat T.C), .int .i64 T.len]) ∧ Kp w w' := by
  induction T with
  | nil => intros; exact (OIn.nil (by assumption)).elim
  | mk k n m kid ih =>
    intro v w hT hl
    have hT0 := hT
    obtain ⟨o, c, rfl, ⟨hm, n0, n1⟩, _⟩ := hT0
    have HT := Lib.hid hT
    have HI := Lib.hid ih
    clear hT ih
    rcases len_cases hl with ⟨rfl, rfl, h1, h2, hlen⟩ | ⟨rfl, rfl, h1, h2, hlen⟩ | ⟨rfl, rfl, rfl, h1, h2, h3, hlen⟩ | ⟨rfl, rfl, h1, h2, h3, hlen⟩
    · clear hl
      obtain ⟨P, hP⟩ : ∃ P, 8 * n * n = P := ⟨_, rfl⟩
      have hP0 : 0 ≤ P := by rw [← hP]; exact Int.mul_nonneg (by omega) (by omega)
      have hP1 : P ≤ 512 * 64 := by rw [← hP]; exact Int.mul_le_mul (by omega) (by omega) (by omega) (by omega)
      rw [hlen, C1, hP, sat_small _ (by omega)]
      clear hlen
      go_enter Tryd.func36, Tryd.ntmps36
      go_wp2_with fail
      go_ret2
      exact ⟨rfl, (Kp.refl w).alloc _⟩
    · clear hl
      have h0 := Lib.hid fun w => rWork_any n w
      obtain ⟨p0, p1⟩ := wk_range n
      rw [hlen, C2, sat_small _ (by omega)]
      clear hlen
      generalize wk n = W at *
      go_enter Tryd.func36, Tryd.ntmps36
      go_wp2_with (go_at_call 59; (with_reducible refine (h0.out _).mono ?_); rintro e w1 ⟨⟨s, p, rfl, hsp, _, _, _, _⟩, hk1⟩)
      go_ret2
      exact ⟨rfl, ((Kp.refl w).alloc _).trans hk1⟩
    · clear hl
      obtain ⟨g, off, rfl, hg, hcells⟩ := HT.out.kid rfl (by omega)
      obtain ⟨ka, na, ma, oa, ca, q1, q2, q3, hkid0⟩ := hcells 0 (by omega)
      obtain ⟨kb, nb, mb, ob, cb, q4, q5, q6, hkid1⟩ := hcells 1 (by omega)
      simp only [Nat.zero_mul, Nat.one_mul, Nat.add_zero, Nat.add_assoc, Nat.reduceAdd] at q1 q2 q3 q4 q5 q6
      have hk0 := (Kp.refl w).alloc (.cells #[.int .i64 3, .int .i64 0, .slice (some ⟨g, off, none⟩) 2 c] 28)
      obtain ⟨r1, r2, r3⟩ := box3 w (.int .i64 3) (.int .i64 0) (.slice (some ⟨g, off, none⟩) 2 c) 28
      obtain ⟨W1, hW1⟩ : ∃ W1, w.alloc (.cells #[.int .i64 3, .int .i64 0, .slice (some ⟨g, off, none⟩) 2 c] 28) = W1 := ⟨_, rfl⟩
      rw [hW1] at hk0 r1 r2 r3
      have hkid0 := hkid0.kp hk0
      have hkid1 := hkid1.kp hk0
      have hkk := hkid0.kind
      have c0 : Hid (∀ w', Kp W1 w' → Calls Tryd.prog 36 #[.agg #[.int .i64 ka, .int .i64 na, .slice oa ma ca]] w' fun e w'' => e = .returned (.tuple #[.int .i64 (sat (kid 0).C), .int .i64 (kid 0).len]) ∧ Kp W1 w'') := Lib.hid fun w' hk => (HI.out 0 _ w' (hkid0.kp hk) (by omega)).mono (by rintro e w1 ⟨rfl, h⟩; exact ⟨rfl, hk.trans h⟩)
      have c1 : Hid (∀ w', Kp W1 w' → Calls Tryd.prog 36 #[.agg #[.int .i64 kb, .int .i64 nb, .slice ob mb cb]] w' fun e w'' => e = .returned (.tuple #[.int .i64 (sat (kid 1).C), .int .i64 (kid 1).len]) ∧ Kp W1 w'') := Lib.hid fun w' hk => (HI.out 1 _ w' (hkid1.kp hk) (by omega)).mono (by rintro e w1 ⟨rfl, h⟩; exact ⟨rfl, hk.trans h⟩)
      have z0 := C_nonneg (kid 0) (by omega)
      have z1 := C_nonneg (kid 1) (by omega)
      obtain ⟨_, a1⟩ := (kid 0).len_range
      obtain ⟨_, b1⟩ := (kid 1).len_range
      obtain ⟨x0, x1⟩ := sat_range _ z0
      obtain ⟨y0, y1⟩ := sat_range _ z1
      have t0 : Hid (∀ w', Kp W1 w' → Calls Tryd.prog 53 #[.int .i64 ka, .int .i64 (sat (kid 0).C), .int .i64 (kid 0).len, .int .i64 (sat (kid 1).C), .int .i64 (kid 1).len] w' fun e w'' => e = .returned (.int .i64 (sat (Tr.mk 3 0 2 kid).C)) ∧ w'' = w') := Lib.hid fun w' hk => (rtcost_any ka _ _ _ _ w' (by omega) a1 (by omega) b1 x0 x1 y0 y1).mono (by
        rintro e w1 ⟨rfl, h⟩
        refine ⟨?_, h⟩
        rw [tcost_sat _ _ _ _ _ (by omega) (by omega) z0 z1, C3, hkk])
      have HB : Hid (∀ w', Kp W1 w' → Hid (w'.cell? ⟨w.heap.size, 2, none⟩ = some (.slice (some ⟨g, off, none⟩) 2 c) ∧ w'.cell? ⟨g, off, none⟩ = some (.int .i64 ka) ∧ w'.cell? ⟨g, off + 1, none⟩ = some (.int .i64 na) ∧ w'.cell? ⟨g, off + 2, none⟩ = some (.slice oa ma ca) ∧ w'.cell? ⟨g, off + 3, none⟩ = some (.int .i64 kb) ∧ w'.cell? ⟨g, off + 4, none⟩ = some (.int .i64 nb) ∧ w'.cell? ⟨g, off + 5, none⟩ = some (.slice ob mb cb))) :=
        Lib.hid fun w' h => Lib.hid ⟨h.later r3, (hk0.trans h).later q1, (hk0.trans h).later q2, (hk0.trans h).later q3, (hk0.trans h).later q4, (hk0.trans h).later q5, (hk0.trans h).later q6⟩
      rw [hlen]
      clear hlen
      generalize sat (Tr.mk 3 0 2 kid).C = RES at *
      generalize (kid 0).len = la at *
      generalize (kid 1).len = lb at *
      generalize sat (kid 0).C = xa at *
      generalize sat (kid 1).C = xb at *
      obtain ⟨P, hP⟩ : ∃ P, la * lb = P := ⟨_, rfl⟩
      have hP0 : 0 ≤ P := by rw [← hP]; exact Int.mul_nonneg (by omega) (by omega)
      rw [hP] at h3 ⊢
      clear hcells hkid0 hkid1 HT HI z0 z1 hkk q1 q2 q3 q4 q5 q6 r3
      obtain ⟨r3, q1, q2, q3, q4, q5, q6⟩ := (HB.out _ (Kp.refl _)).out
      go_enter Tryd.func36, Tryd.ntmps36
      go_wp2_with (first
        | (go_at_call 36; (with_reducible refine (c0.out _ (Kp.refl _)).mono ?_); rintro e w2 ⟨rfl, hk1⟩; obtain ⟨z3, z4, z5, z6, z7, z8, z9⟩ := (HB.out _ hk1).out)
        | (go_at_call 36; (with_reducible refine (c1.out _ hk1).mono ?_); rintro e w3 ⟨rfl, hk2⟩; obtain ⟨u3, u4, u5, u6, u7, u8, u9⟩ := (HB.out _ hk2).out)
        | (go_at_call 53; (with_reducible refine (t0.out _ hk2).mono ?_); rintro e w4 ⟨rfl, rfl⟩))
      go_ret2
      exact ⟨rfl, hk0.trans hk2⟩
    · clear hl
      obtain ⟨g, off, rfl, hg, hcells⟩ := HT.out.kid rfl (by omega)
      obtain ⟨ka, na, ma, oa, ca, q1, q2, q3, hkid0⟩ := hcells 0 (by omega)
      simp only [Nat.zero_mul, Nat.add_zero] at q1 q2 q3
      have hk0 := (Kp.refl w).alloc (.cells #[.int .i64 4, .int .i64 n, .slice (some ⟨g, off, none⟩) 1 c] 28)
      obtain ⟨r1, r2, r3⟩ := box3 w (.int .i64 4) (.int .i64 n) (.slice (some ⟨g, off, none⟩) 1 c) 28
      obtain ⟨W1, hW1⟩ : ∃ W1, w.alloc (.cells #[.int .i64 4, .int .i64 n, .slice (some ⟨g, off, none⟩) 1 c] 28) = W1 := ⟨_, rfl⟩
      rw [hW1] at hk0 r1 r2 r3
      have hkid0 := hkid0.kp hk0
      have c0 : Hid (∀ w', Kp W1 w' → Calls Tryd.prog 36 #[.agg #[.int .i64 ka, .int .i64 na, .slice oa ma ca]] w' fun e w'' => e = .returned (.tuple #[.int .i64 (sat (kid 0).C), .int .i64 (kid 0).len]) ∧ Kp W1 w'') := Lib.hid fun w' hk => (HI.out 0 _ w' (hkid0.kp hk) (by omega)).mono (by rintro e w1 ⟨rfl, h⟩; exact ⟨rfl, hk.trans h⟩)
      have z0 := C_nonneg (kid 0) (by omega)
      obtain ⟨a0, a1⟩ := (kid 0).len_range
      obtain ⟨x0, x1⟩ := sat_range _ z0
      have p0 := Lib.hid fun w => rprod_any (sat (kid 0).C) 3 w x0 x1 (by decide) (by decide)
      obtain ⟨y0, y1⟩ := sat_range (3 * sat (kid 0).C) (by omega)
      have s0 : Hid (∀ w, Calls Tryd.prog 60 #[.int .i64 (sat (3 * sat (kid 0).C)), .int .i64 (12 * n + 10 * (kid 0).len)] w fun e w'' => e = .returned (.int .i64 (sat (Tr.mk 4 n 1 kid).C)) ∧ w'' = w) := Lib.hid fun w' => (rsum_any _ _ w' y0 y1 (by omega) (by omega)).mono (by
        rintro e w1 ⟨rfl, h⟩
        refine ⟨?_, h⟩
        rw [sat_add _ _ (by omega), C4, ← bcost_sat _ _ _ (by omega) a0]
        unfold bcost
        rw [Int.add_assoc])
      rw [hlen]
      clear hlen
      generalize sat (Tr.mk 4 n 1 kid).C = RES at *
      generalize (kid 0).len = la at *
      generalize sat (kid 0).C = xa at *
      generalize sat (3 * xa) = ya at *
      clear hcells hkid0 HT HI z0
      have q1 := hk0.later q1
      have q2 := hk0.later q2
      have q3 := hk0.later q3
      go_enter Tryd.func36, Tryd.ntmps36
      go_wp2_with (first
        | (go_at_call 36; (with_reducible refine (c0.out _ (Kp.refl _)).mono ?_); rintro e w2 ⟨rfl, hk1⟩)
        | (go_at_call 61; (with_reducible refine (p0.out _).mono ?_); rintro e w3 ⟨rfl, rfl⟩)
        | (go_at_call 60; (with_reducible refine (s0.out _).mono ?_); rintro e w4 ⟨rfl, rfl⟩))
      go_ret2
      exact ⟨rfl, hk0.trans hk1⟩

set_option maxRecDepth 100000 in
set_option maxHeartbeats 1000000 in
theorem rCost_any (T : Tr) (v : Value) (w : World) (hT : OIn w T v) : Calls Tryd.prog 19 #[v] w fun e w' => e = .returned (.tuple #[.int .i64 T.cost.1, .int .i64 (T.cost.2 : Nat)]) ∧ Kp w w' := by
  have hT0 := hT
  obtain _ | ⟨k, n, m, kid⟩ := T
  · exact (OIn.nil hT).elim
  obtain ⟨o, c, rfl, _, _⟩ := hT0
  have hk0 := (Kp.refl w).alloc (.cells #[.int .i64 k, .int .i64 n, .slice o m c] 28)
  obtain ⟨r1, r2, r3⟩ := box3 w (.int .i64 k) (.int .i64 n) (.slice o m c) 28
  obtain ⟨W1, hW1⟩ : ∃ W1, w.alloc (.cells #[.int .i64 k, .int .i64 n, .slice o m c] 28) = W1 := ⟨_, rfl⟩
  rw [hW1] at hk0 r1 r2 r3
  have h1 := Lib.hid (rCheck_any _ _ W1 (hT.kp hk0))
  by_cases hl : (Tr.mk k n m kid).Len = 0
  · rw [if_pos hl] at h1
    rw [cost_bad hl]
    clear hl hT
    go_enter Tryd.func19, Tryd.ntmps19
    go_wp2_with (go_at_call 35; (with_reducible refine h1.out.mono ?_); rintro e w2 ⟨rfl, hk1⟩)
    go_ret2
    exact ⟨rfl, hk0.trans hk1⟩
  · obtain ⟨hp, hd, hl0⟩ := Len_ne hl
    rw [if_neg hl] at h1
    have h2 : Hid (∀ w', Kp W1 w' → Calls Tryd.prog 36 #[.agg #[.int .i64 k, .int .i64 n, .slice o m c]] w' fun e w'' => e = .returned (.tuple #[.int .i64 (sat (Tr.mk k n m kid).C), .int .i64 (Tr.mk k n m kid).len]) ∧ Kp w' w'') := Lib.hid fun w' hk => rcost_any _ _ w' (hT.kp (hk0.trans hk)) hl0
    have hC := C_nonneg _ hl0
    generalize (Tr.mk k n m kid).len = len at h2
    by_cases hc : 4611686018427387904 < (Tr.mk k n m kid).C
    · rw [cost_dear hl hc]
      rw [sat_big _ hc] at h2
      clear hl hT hl0 hp hd hC hc
      go_enter Tryd.func19, Tryd.ntmps19
      go_wp2_with (first
        | (go_at_call 35; (with_reducible refine h1.out.mono ?_); rintro e w2 ⟨rfl, hk1⟩; have r1 := hk1.later r1; have r2 := hk1.later r2; have r3 := hk1.later r3)
        | (go_at_call 36; (with_reducible refine (h2.out _ hk1).mono ?_); rintro e w3 ⟨rfl, hk2⟩))
      go_ret2
      exact ⟨rfl, (hk0.trans hk1).trans hk2⟩
    · rw [cost_good hl hc]
      rw [sat_small _ (by omega)] at h2
      obtain ⟨C, hC0⟩ : ∃ C, (Tr.mk k n m kid).C = C := ⟨_, rfl⟩
      rw [hC0] at h2 hC hc ⊢
      have d1 : decide (4611686018427387904 < C) = false := by simpa using hc
      clear hl hT hl0 hp hd hC0
      go_enter Tryd.func19, Tryd.ntmps19
      go_wp2_with (first
        | (go_at_call 35; (with_reducible refine h1.out.mono ?_); rintro e w2 ⟨rfl, hk1⟩; have r1 := hk1.later r1; have r2 := hk1.later r2; have r3 := hk1.later r3)
        | (go_at_call 36; (with_reducible refine (h2.out _ hk1).mono ?_); rintro e w3 ⟨rfl, hk2⟩))
      go_ret2
      exact ⟨rfl, (hk0.trans hk1).trans hk2⟩
end Go.Proofs.YtgjlldapnodfbaaDoor
