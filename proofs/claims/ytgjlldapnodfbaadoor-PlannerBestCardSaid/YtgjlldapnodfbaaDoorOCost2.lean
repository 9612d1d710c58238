/-
  What an order costs: the walks of planner.cost, planner.Cost and of the reference's cost, Cost.
-/
import Derived.Test.YtgjlldapnodfbaaDoorOCost
namespace Go.Ord
theorem kid_small {k n : Int} {m : Nat} {kid : Nat → Tr} (hp : (Tr.mk k n m kid).parts ≤ 4096) (hd : (Tr.mk k n m kid).depth ≤ 16) (i : Nat) (hi : i < m) : (kid i).parts ≤ 4096 ∧ (kid i).depth ≤ 16 := by
  rw [parts_eq] at hp
  rw [depth_eq] at hd
  have h1 := sumTo_le (fun i => (kid i).parts) m i hi
  have h2 := (Go.Proofs.YtgjlldapnodfbaaDoor.maxTo_iff (fun i => (kid i).depth) 15 m).1 (by omega) i hi
  exact ⟨Nat.le_trans h1 (by omega), Nat.le_trans h2 (by omega)⟩
theorem Len_small {T : Tr} (hp : T.parts ≤ 4096) (hd : T.depth ≤ 16) : T.Len = T.len := by unfold Tr.Len; rw [if_pos ⟨hp, hd⟩]
theorem C1 (n : Int) (m : Nat) (kid : Nat → Tr) : (Tr.mk 1 n m kid).C = 8 * n * n := by
  conv => lhs; unfold Tr.C
  rw [if_pos rfl]
theorem C2 (n : Int) (m : Nat) (kid : Nat → Tr) : (Tr.mk 2 n m kid).C = wk n := by
  conv => lhs; unfold Tr.C
  rw [if_neg (by decide), if_pos rfl]
theorem C3 (n : Int) (m : Nat) (kid : Nat → Tr) : (Tr.mk 3 n m kid).C = tcost (kid 0).len (kid 1).len (kid 0).C (kid 1).C ((kid 0).kind == 2) := by
  conv => lhs; unfold Tr.C
  rw [if_neg (by decide), if_neg (by decide), if_neg (by decide)]
theorem C4 (n : Int) (m : Nat) (kid : Nat → Tr) : (Tr.mk 4 n m kid).C = bcost n (kid 0).len (kid 0).C := by
  conv => lhs; unfold Tr.C
  rw [if_neg (by decide), if_neg (by decide), if_pos rfl]
/-- The kinds of a good tree, and what its kids are like. -/
theorem len_cases {k n : Int} {m : Nat} {kid : Nat → Tr} (h : (Tr.mk k n m kid).len ≠ 0) :
    (k = 1 ∧ m = 0 ∧ 1 ≤ n ∧ n ≤ 64 ∧ (Tr.mk k n m kid).len = n) ∨ (k = 2 ∧ m = 0 ∧ 2 ≤ n ∧ n ≤ 5 ∧ (Tr.mk k n m kid).len = n) ∨
    (k = 3 ∧ m = 2 ∧ n = 0 ∧ 2 ≤ (kid 0).len ∧ 2 ≤ (kid 1).len ∧ (kid 0).len * (kid 1).len ≤ 16384 ∧ (Tr.mk k n m kid).len = (kid 0).len * (kid 1).len) ∨
    (k = 4 ∧ m = 1 ∧ 2 ≤ n ∧ n ≤ 8192 ∧ 2 * n - 1 ≤ (kid 0).len ∧ (Tr.mk k n m kid).len = n) := by
  by_cases k1 : k = 1
  · subst k1
    rw [len1] at h ⊢
    by_cases c : 1 ≤ n ∧ n ≤ 64 ∧ m = 0
    · rw [if_pos c]; exact .inl ⟨rfl, c.2.2, c.1, c.2.1, rfl⟩
    · rw [if_neg c] at h; exact absurd rfl h
  by_cases k2 : k = 2
  · subst k2
    rw [len2] at h ⊢
    by_cases c : 2 ≤ n ∧ n ≤ 5 ∧ m = 0
    · rw [if_pos c]; exact .inr (.inl ⟨rfl, c.2.2, c.1, c.2.1, rfl⟩)
    · rw [if_neg c] at h; exact absurd rfl h
  by_cases k3 : k = 3
  · subst k3
    rw [len3] at h ⊢
    by_cases c : n = 0 ∧ m = 2
    · rw [if_pos c] at h ⊢
      by_cases d : 2 ≤ (kid 0).len ∧ 2 ≤ (kid 1).len ∧ (kid 0).len * (kid 1).len ≤ 16384
      · rw [if_pos d]; exact .inr (.inr (.inl ⟨rfl, c.2, c.1, d.1, d.2.1, d.2.2, rfl⟩))
      · rw [if_neg d] at h; exact absurd rfl h
    · rw [if_neg c] at h; exact absurd rfl h
  by_cases k4 : k = 4
  · subst k4
    rw [len4] at h ⊢
    by_cases c : 2 ≤ n ∧ n ≤ 8192 ∧ m = 1
    · rw [if_pos c] at h ⊢
      by_cases d : 2 * n - 1 ≤ (kid 0).len
      · rw [if_pos d]; exact .inr (.inr (.inr ⟨rfl, c.2.2, c.1, c.2.1, d, rfl⟩))
      · rw [if_neg d] at h; exact absurd rfl h
    · rw [if_neg c] at h; exact absurd rfl h
  rw [len0 k n m kid k1 k2 k3 k4] at h
  exact absurd rfl h
theorem C_nonneg : ∀ (T : Tr), T.len ≠ 0 → 0 ≤ T.C := by
  intro T
  induction T with
  | nil => intro h; simp [Tr.len] at h
  | mk k n m kid ih =>
    intro h
    rcases len_cases h with ⟨rfl, _, h1, _⟩ | ⟨rfl, _⟩ | ⟨rfl, _, _, h1, h2, _⟩ | ⟨rfl, _, h1, h2, h3, _⟩
    · rw [C1]; exact Int.mul_nonneg (by omega) (by omega)
    · rw [C2]; exact (wk_range n).1
    · rw [C3]; exact tcost_nonneg _ _ _ _ _ (by omega) (by omega) (ih 0 (by omega)) (ih 1 (by omega))
    · rw [C4]
      have := ih 0 (by omega)
      have := (kid 0).len_range
      unfold bcost
      omega
end Go.Ord
namespace Go.Proofs.YtgjlldapnodfbaaDoor
open Go Go.RowKit Go.Fl Go.Ord

theorem OIn.kind {w : World} {T : Tr} {k n : Int} {s : Value} (h : OIn w T (.agg #[.int .i64 k, .int .i64 n, s])) : T.kind = k := by
  cases T with
  | nil => exact (OIn.nil h).elim
  | mk k' n' m kid =>
    obtain ⟨o, c, e, _⟩ := h
    have : k = k' ∧ n = n' ∧ s = .slice o m c := by simpa using e
    exact this.1.symm
set_option maxRecDepth 100000 in
set_option maxHeartbeats 2000000 in
theorem pcost_any (T : Tr) : ∀ (v : Value) (w : World), OIn w T v → T.len ≠ 0 → T.parts ≤ 4096 → T.depth ≤ 16 → Calls Tryd.prog 34 #[v] w fun e w' => e = .returned (.int .i64 (sat T.C)) ∧ Kp w w' := by
  induction T with
  | nil => intros; exact (OIn.nil (by assumption)).elim
  | mk k n m kid ih =>
    intro v w hT hl hp hd
    have hT0 := hT
    obtain ⟨o, c, rfl, ⟨hm, n0, n1⟩, _⟩ := hT0
    have HT := Lib.hid hT
    have HI := Lib.hid ih
    have HS := Lib.hid fun i (hi : i < m) => kid_small hp hd i hi
    clear hT ih hp hd
    rcases len_cases hl with ⟨rfl, rfl, h1, h2, _⟩ | ⟨rfl, rfl, h1, h2, _⟩ | ⟨rfl, rfl, rfl, h1, h2, h3, _⟩ | ⟨rfl, rfl, h1, h2, h3, _⟩
    · clear hl
      obtain ⟨P, hP⟩ : ∃ P, 8 * n * n = P := ⟨_, rfl⟩
      have hP0 : 0 ≤ P := by rw [← hP]; exact Int.mul_nonneg (by omega) (by omega)
      have hP1 : P ≤ 512 * 64 := by rw [← hP]; exact Int.mul_le_mul (by omega) (by omega) (by omega) (by omega)
      rw [C1, hP, sat_small _ (by omega)]
      go_enter Tryd.func34, Tryd.ntmps34
      go_wp2_with fail
      go_ret
      exact ⟨rfl, (Kp.refl w).alloc _⟩
    · clear hl
      have h0 := Lib.hid fun w => fWork_any n w
      obtain ⟨p0, p1⟩ := wk_range n
      rw [C2, sat_small _ (by omega)]
      generalize wk n = W at *
      go_enter Tryd.func34, Tryd.ntmps34
      go_wp2_with (go_at_call 57; (with_reducible refine (h0.out _).mono ?_); rintro e w1 ⟨rfl, rfl⟩)
      go_ret
      exact ⟨rfl, (Kp.refl w).alloc _⟩
    · clear hl
      obtain ⟨g, off, rfl, hg, hcells⟩ := HT.out.kid rfl (by omega)
      obtain ⟨ka, na, ma, oa, ca, q1, q2, q3, hkid0⟩ := hcells 0 (by omega)
      obtain ⟨kb, nb, mb, ob, cb, q4, q5, q6, hkid1⟩ := hcells 1 (by omega)
      simp only [Nat.zero_mul, Nat.one_mul, Nat.add_zero, Nat.add_assoc, Nat.reduceAdd] at q1 q2 q3 q4 q5 q6
      have hk0 := (Kp.refl w).alloc (.cells #[.int .i64 3, .int .i64 0, .slice (some ⟨g, off, none⟩) 2 c] 28)
      obtain ⟨r1, r2, r3⟩ := box3 w (.int .i64 3) (.int .i64 0) (.slice (some ⟨g, off, none⟩) 2 c) 28
      obtain ⟨W1, hW1⟩ : ∃ W1, w.alloc (.cells #[.int .i64 3, .int .i64 0, .slice (some ⟨g, off, none⟩) 2 c] 28) = W1 := ⟨_, rfl⟩
      rw [hW1] at hk0 r1 r2 r3
      have hkid0 := hkid0.kp hk0
      have hkid1 := hkid1.kp hk0
      obtain ⟨s0, d0⟩ := HS.out 0 (by omega)
      obtain ⟨s1, d1⟩ := HS.out 1 (by omega)
      have hkk := hkid0.kind
      have e0 := Len_small s0 d0
      have e1 := Len_small s1 d1
      have l0 : Hid (∀ w', Kp W1 w' → Calls Tryd.prog 20 #[.agg #[.int .i64 ka, .int .i64 na, .slice oa ma ca]] w' fun e w'' => e = .returned (.int .i64 (kid 0).len) ∧ Kp W1 w'') := Lib.hid fun w' hk => (Length_any (kid 0) _ w' (hkid0.kp hk)).mono (by rintro e w1 ⟨rfl, h⟩; exact ⟨by rw [e0], hk.trans h⟩)
      have l1 : Hid (∀ w', Kp W1 w' → Calls Tryd.prog 20 #[.agg #[.int .i64 kb, .int .i64 nb, .slice ob mb cb]] w' fun e w'' => e = .returned (.int .i64 (kid 1).len) ∧ Kp W1 w'') := Lib.hid fun w' hk => (Length_any (kid 1) _ w' (hkid1.kp hk)).mono (by rintro e w1 ⟨rfl, h⟩; exact ⟨by rw [e1], hk.trans h⟩)
      have c0 : Hid (∀ w', Kp W1 w' → Calls Tryd.prog 34 #[.agg #[.int .i64 ka, .int .i64 na, .slice oa ma ca]] w' fun e w'' => e = .returned (.int .i64 (sat (kid 0).C)) ∧ Kp W1 w'') := Lib.hid fun w' hk => (HI.out 0 _ w' (hkid0.kp hk) (by omega) s0 d0).mono (by rintro e w1 ⟨rfl, h⟩; exact ⟨rfl, hk.trans h⟩)
      have c1 : Hid (∀ w', Kp W1 w' → Calls Tryd.prog 34 #[.agg #[.int .i64 kb, .int .i64 nb, .slice ob mb cb]] w' fun e w'' => e = .returned (.int .i64 (sat (kid 1).C)) ∧ Kp W1 w'') := Lib.hid fun w' hk => (HI.out 1 _ w' (hkid1.kp hk) (by omega) s1 d1).mono (by rintro e w1 ⟨rfl, h⟩; exact ⟨rfl, hk.trans h⟩)
      have z0 := C_nonneg (kid 0) (by omega)
      have z1 := C_nonneg (kid 1) (by omega)
      obtain ⟨_, a1⟩ := (kid 0).len_range
      obtain ⟨_, b1⟩ := (kid 1).len_range
      obtain ⟨x0, x1⟩ := sat_range _ z0
      obtain ⟨y0, y1⟩ := sat_range _ z1
      have t0 : Hid (∀ w', Kp W1 w' → Calls Tryd.prog 48 #[.int .i64 (kid 0).len, .int .i64 (kid 1).len, .int .i64 (sat (kid 0).C), .int .i64 (sat (kid 1).C), .bool (ka == 2)] w' fun e w'' => e = .returned (.int .i64 (sat (Tr.mk 3 0 2 kid).C)) ∧ Kp W1 w'') := Lib.hid fun w' hk => (ptcost_any _ _ _ _ _ w' (by omega) a1 (by omega) b1 x0 x1 y0 y1).mono (by
        rintro e w1 ⟨rfl, h⟩
        refine ⟨?_, hk.trans h⟩
        rw [tcost_sat _ _ _ _ _ (by omega) (by omega) z0 z1, C3, hkk])
      generalize sat (Tr.mk 3 0 2 kid).C = RES at *
      generalize (kid 0).len = la at *
      generalize (kid 1).len = lb at *
      generalize sat (kid 0).C = xa at *
      generalize sat (kid 1).C = xb at *
      clear hcells hkid0 hkid1 HT HI HS e0 e1 z0 z1 s0 s1 d0 d1 hkk
      go_enter Tryd.func34, Tryd.ntmps34
      go_upto_region 8 with fail
      obtain ⟨B, hB⟩ : ∃ B, w.heap.size = B := ⟨_, rfl⟩
      rw [hB] at r1 r2 r3
      simp only [hB]
      have HB2 : Hid (∀ w', Kp W1 w' → Hid (w'.cell? ⟨B, 2, none⟩ = some (.slice (some ⟨g, off, none⟩) 2 c) ∧ w'.cell? ⟨g, off, none⟩ = some (.int .i64 ka) ∧ w'.cell? ⟨g, off + 1, none⟩ = some (.int .i64 na) ∧ w'.cell? ⟨g, off + 2, none⟩ = some (.slice oa ma ca) ∧ w'.cell? ⟨g, off + 3, none⟩ = some (.int .i64 kb) ∧ w'.cell? ⟨g, off + 4, none⟩ = some (.int .i64 nb) ∧ w'.cell? ⟨g, off + 5, none⟩ = some (.slice ob mb cb))) :=
        Lib.hid fun w' h => Lib.hid ⟨h.later r3, (hk0.trans h).later q1, (hk0.trans h).later q2, (hk0.trans h).later q3, (hk0.trans h).later q4, (hk0.trans h).later q5, (hk0.trans h).later q6⟩
      have HK := Lib.hid hk0
      clear hB hW1 hk0 q1 q2 q3 q4 q5 q6 r3
      obtain ⟨z3, z4, z5, z6, z7, z8, z9⟩ := (HB2.out _ (Kp.refl _)).out
      have kd : Kp W1 W1.drew := (Kp.refl W1).drew
      go_region_held3 (fun w' => w'.cell? ⟨B, 2, none⟩ = some (.slice (some ⟨g, off, none⟩) 2 c) ∧ w'.cell? ⟨g, off, none⟩ = some (.int .i64 ka) ∧ w'.cell? ⟨g, off + 1, none⟩ = some (.int .i64 na) ∧ w'.cell? ⟨g, off + 2, none⟩ = some (.slice oa ma ca) ∧ w'.cell? ⟨g, off + 3, none⟩ = some (.int .i64 kb) ∧ w'.cell? ⟨g, off + 4, none⟩ = some (.int .i64 nb) ∧ w'.cell? ⟨g, off + 5, none⟩ = some (.slice ob mb cb)) (first | go_keep | exact (HB2.out _ hk1).out | exact (HB2.out _ hk2).out) (first
        | (go_at_call 20; (with_reducible refine (l0.out _ kd).mono ?_); rintro e w2 ⟨rfl, hk1⟩)
        | (go_at_call 20; (with_reducible refine (l1.out _ hk1).mono ?_); rintro e w2 ⟨rfl, hk2⟩))
      clear z3 z4 z5 z6 z7 z8 z9 r1 r2 l0 l1 kd
      go_upto_region 9 with fail
      obtain ⟨z3, z4, z5, z6, z7, z8, z9⟩ := (HB2.out _ hk2).out
      have kd : Kp W1 w2.drew := hk2.drew
      go_region_held3 (fun w' => w'.cell? ⟨B, 2, none⟩ = some (.slice (some ⟨g, off, none⟩) 2 c) ∧ w'.cell? ⟨g, off, none⟩ = some (.int .i64 ka) ∧ w'.cell? ⟨g, off + 1, none⟩ = some (.int .i64 na) ∧ w'.cell? ⟨g, off + 2, none⟩ = some (.slice oa ma ca) ∧ w'.cell? ⟨g, off + 3, none⟩ = some (.int .i64 kb) ∧ w'.cell? ⟨g, off + 4, none⟩ = some (.int .i64 nb) ∧ w'.cell? ⟨g, off + 5, none⟩ = some (.slice ob mb cb)) (first | go_keep | exact (HB2.out _ hk3).out | exact (HB2.out _ hk4).out | exact (HB2.out _ hk5).out) (first
        | (go_at_call 34; (with_reducible refine (c0.out _ kd).mono ?_); rintro e w3 ⟨rfl, hk3⟩)
        | (go_at_call 34; (with_reducible refine (c1.out _ hk3).mono ?_); rintro e w4 ⟨rfl, hk4⟩)
        | (go_at_call 48; (with_reducible refine (t0.out _ hk4).mono ?_); rintro e w5 ⟨rfl, hk5⟩))
      go_wp2_with fail
      go_ret
      exact ⟨rfl, HK.out.trans hk5⟩
    · clear hl
      obtain ⟨g, off, rfl, hg, hcells⟩ := HT.out.kid rfl (by omega)
      obtain ⟨ka, na, ma, oa, ca, q1, q2, q3, hkid0⟩ := hcells 0 (by omega)
      simp only [Nat.zero_mul, Nat.add_zero] at q1 q2 q3
      have hk0 := (Kp.refl w).alloc (.cells #[.int .i64 4, .int .i64 n, .slice (some ⟨g, off, none⟩) 1 c] 28)
      obtain ⟨r1, r2, r3⟩ := box3 w (.int .i64 4) (.int .i64 n) (.slice (some ⟨g, off, none⟩) 1 c) 28
      obtain ⟨W1, hW1⟩ : ∃ W1, w.alloc (.cells #[.int .i64 4, .int .i64 n, .slice (some ⟨g, off, none⟩) 1 c] 28) = W1 := ⟨_, rfl⟩
      rw [hW1] at hk0 r1 r2 r3
      have hkid0 := hkid0.kp hk0
      obtain ⟨s0, d0⟩ := HS.out 0 (by omega)
      have e0 := Len_small s0 d0
      have l0 : Hid (∀ w', Kp W1 w' → Calls Tryd.prog 20 #[.agg #[.int .i64 ka, .int .i64 na, .slice oa ma ca]] w' fun e w'' => e = .returned (.int .i64 (kid 0).len) ∧ Kp W1 w'') := Lib.hid fun w' hk => (Length_any (kid 0) _ w' (hkid0.kp hk)).mono (by rintro e w1 ⟨rfl, h⟩; exact ⟨by rw [e0], hk.trans h⟩)
      have c0 : Hid (∀ w', Kp W1 w' → Calls Tryd.prog 34 #[.agg #[.int .i64 ka, .int .i64 na, .slice oa ma ca]] w' fun e w'' => e = .returned (.int .i64 (sat (kid 0).C)) ∧ Kp W1 w'') := Lib.hid fun w' hk => (HI.out 0 _ w' (hkid0.kp hk) (by omega) s0 d0).mono (by rintro e w1 ⟨rfl, h⟩; exact ⟨rfl, hk.trans h⟩)
      have z0 := C_nonneg (kid 0) (by omega)
      obtain ⟨a0, a1⟩ := (kid 0).len_range
      obtain ⟨x0, x1⟩ := sat_range _ z0
      have t0 : Hid (∀ w', Kp W1 w' → Calls Tryd.prog 51 #[.int .i64 n, .int .i64 (kid 0).len, .int .i64 (sat (kid 0).C)] w' fun e w'' => e = .returned (.int .i64 (sat (Tr.mk 4 n 1 kid).C)) ∧ Kp W1 w'') := Lib.hid fun w' hk => (pblue_any _ _ _ w' (by omega) (by omega) a0 a1 x0 x1).mono (by
        rintro e w1 ⟨rfl, h⟩
        refine ⟨?_, hk.trans h⟩
        rw [bcost_sat _ _ _ (by omega) (by omega), C4])
      generalize sat (Tr.mk 4 n 1 kid).C = RES at *
      generalize (kid 0).len = la at *
      generalize sat (kid 0).C = xa at *
      clear hcells hkid0 HT HI HS e0 z0 s0 d0
      go_enter Tryd.func34, Tryd.ntmps34
      go_upto_region 7 with fail
      obtain ⟨B, hB⟩ : ∃ B, w.heap.size = B := ⟨_, rfl⟩
      rw [hB] at r1 r2 r3
      simp only [hB]
      have HB2 : Hid (∀ w', Kp W1 w' → Hid (w'.cell? ⟨B, 1, none⟩ = some (.int .i64 n) ∧ w'.cell? ⟨B, 2, none⟩ = some (.slice (some ⟨g, off, none⟩) 1 c) ∧ w'.cell? ⟨g, off, none⟩ = some (.int .i64 ka) ∧ w'.cell? ⟨g, off + 1, none⟩ = some (.int .i64 na) ∧ w'.cell? ⟨g, off + 2, none⟩ = some (.slice oa ma ca))) :=
        Lib.hid fun w' h => Lib.hid ⟨h.later r2, h.later r3, (hk0.trans h).later q1, (hk0.trans h).later q2, (hk0.trans h).later q3⟩
      have HK := Lib.hid hk0
      clear hB hW1 hk0 q1 q2 q3 r2 r3
      obtain ⟨z2, z3, z4, z5, z6⟩ := (HB2.out _ (Kp.refl _)).out
      have kd : Kp W1 W1.drew := (Kp.refl W1).drew
      go_region_held3 (fun w' => w'.cell? ⟨B, 1, none⟩ = some (.int .i64 n) ∧ w'.cell? ⟨B, 2, none⟩ = some (.slice (some ⟨g, off, none⟩) 1 c) ∧ w'.cell? ⟨g, off, none⟩ = some (.int .i64 ka) ∧ w'.cell? ⟨g, off + 1, none⟩ = some (.int .i64 na) ∧ w'.cell? ⟨g, off + 2, none⟩ = some (.slice oa ma ca)) (first | go_keep | exact (HB2.out _ hk1).out | exact (HB2.out _ hk2).out | exact (HB2.out _ hk3).out) (first
        | (go_at_call 20; (with_reducible refine (l0.out _ kd).mono ?_); rintro e w2 ⟨rfl, hk1⟩)
        | (go_at_call 34; (with_reducible refine (c0.out _ hk1).mono ?_); rintro e w2 ⟨rfl, hk2⟩)
        | (go_at_call 51; (with_reducible refine (t0.out _ hk2).mono ?_); rintro e w2 ⟨rfl, hk3⟩))
      go_wp2_with fail
      go_ret
      exact ⟨rfl, HK.out.trans hk3⟩
end Go.Proofs.YtgjlldapnodfbaaDoor
