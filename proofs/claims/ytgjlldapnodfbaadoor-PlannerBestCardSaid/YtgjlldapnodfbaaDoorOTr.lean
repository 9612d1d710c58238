/-
  Orders as plain trees: how many parts, how deep, their length; the walker's length with its counter.
-/
import Derived.Test.YtgjlldapnodfbaaDoorPFac
namespace Go.Ord

/-- A tree of work: kind, number, so many kids. -/
inductive Tr where
  | nil
  | mk (k n : Int) (m : Nat) (kid : Nat → Tr)
def sumTo (f : Nat → Nat) : Nat → Nat
  | 0 => 0
  | i + 1 => sumTo f i + f i
def maxTo (f : Nat → Nat) : Nat → Nat
  | 0 => 0
  | i + 1 => max (maxTo f i) (f i)
def Tr.parts : Tr → Nat
  | .nil => 1
  | .mk _ _ m kid => 1 + sumTo (fun i => (kid i).parts) m
def Tr.depth : Tr → Nat
  | .nil => 1
  | .mk _ _ m kid => maxTo (fun i => (kid i).depth) m + 1
/-- The length, as if the tree were small enough; 0: it isn't good. -/
def Tr.len : Tr → Int
  | .nil => 0
  | .mk k n m kid =>
    if k = 1 then (if 1 ≤ n ∧ n ≤ 64 ∧ m = 0 then n else 0)
    else if k = 2 then (if 2 ≤ n ∧ n ≤ 5 ∧ m = 0 then n else 0)
    else if k = 3 then (if n = 0 ∧ m = 2 then (if 2 ≤ (kid 0).len ∧ 2 ≤ (kid 1).len ∧ (kid 0).len * (kid 1).len ≤ 16384 then (kid 0).len * (kid 1).len else 0) else 0)
    else if k = 4 then (if 2 ≤ n ∧ n ≤ 8192 ∧ m = 1 then (if 2 * n - 1 ≤ (kid 0).len then n else 0) else 0)
    else 0
def Tr.Len (T : Tr) : Int := if T.parts ≤ 4096 ∧ T.depth ≤ 16 then T.len else 0
/-- The walker: parts so far, depth. -/
def Tr.wl : Tr → Nat → Nat → Int × Nat
  | .nil, p, _ => (0, p + 1)
  | .mk k n m kid, p, d =>
    if 4096 < p + 1 ∨ 16 < d then (0, p + 1)
    else if k = 1 ∧ m = 0 ∧ 1 ≤ n ∧ n ≤ 64 then (n, p + 1)
    else if k = 2 ∧ m = 0 ∧ 2 ≤ n ∧ n ≤ 5 then (n, p + 1)
    else if k = 3 ∧ m = 2 ∧ n = 0 then
      (if ((kid 0).wl (p + 1) (d + 1)).1 < 2 then (0, ((kid 0).wl (p + 1) (d + 1)).2)
       else if ((kid 1).wl ((kid 0).wl (p + 1) (d + 1)).2 (d + 1)).1 < 2 ∨ 16384 < ((kid 0).wl (p + 1) (d + 1)).1 * ((kid 1).wl ((kid 0).wl (p + 1) (d + 1)).2 (d + 1)).1 then (0, ((kid 1).wl ((kid 0).wl (p + 1) (d + 1)).2 (d + 1)).2)
       else (((kid 0).wl (p + 1) (d + 1)).1 * ((kid 1).wl ((kid 0).wl (p + 1) (d + 1)).2 (d + 1)).1, ((kid 1).wl ((kid 0).wl (p + 1) (d + 1)).2 (d + 1)).2))
    else if k = 4 ∧ m = 1 ∧ 2 ≤ n ∧ n ≤ 16384 then
      (if ((kid 0).wl (p + 1) (d + 1)).1 < 2 * n - 1 then (0, ((kid 0).wl (p + 1) (d + 1)).2) else (n, ((kid 0).wl (p + 1) (d + 1)).2))
    else (0, p + 1)

theorem len1 (n : Int) (m : Nat) (kid : Nat → Tr) : (Tr.mk 1 n m kid).len = if 1 ≤ n ∧ n ≤ 64 ∧ m = 0 then n else 0 := by
  conv => lhs; unfold Tr.len
  rw [if_pos rfl]
theorem len2 (n : Int) (m : Nat) (kid : Nat → Tr) : (Tr.mk 2 n m kid).len = if 2 ≤ n ∧ n ≤ 5 ∧ m = 0 then n else 0 := by
  conv => lhs; unfold Tr.len
  rw [if_neg (by decide), if_pos rfl]
theorem len3 (n : Int) (m : Nat) (kid : Nat → Tr) : (Tr.mk 3 n m kid).len = if n = 0 ∧ m = 2 then (if 2 ≤ (kid 0).len ∧ 2 ≤ (kid 1).len ∧ (kid 0).len * (kid 1).len ≤ 16384 then (kid 0).len * (kid 1).len else 0) else 0 := by
  conv => lhs; unfold Tr.len
  rw [if_neg (by decide), if_neg (by decide), if_pos rfl]
theorem len4 (n : Int) (m : Nat) (kid : Nat → Tr) : (Tr.mk 4 n m kid).len = if 2 ≤ n ∧ n ≤ 8192 ∧ m = 1 then (if 2 * n - 1 ≤ (kid 0).len then n else 0) else 0 := by
  conv => lhs; unfold Tr.len
  rw [if_neg (by decide), if_neg (by decide), if_neg (by decide), if_pos rfl]
theorem len0 (k n : Int) (m : Nat) (kid : Nat → Tr) (h1 : ¬ k = 1) (h2 : ¬ k = 2) (h3 : ¬ k = 3) (h4 : ¬ k = 4) : (Tr.mk k n m kid).len = 0 := by
  conv => lhs; unfold Tr.len
  rw [if_neg h1, if_neg h2, if_neg h3, if_neg h4]
theorem parts_eq (k n : Int) (m : Nat) (kid : Nat → Tr) : (Tr.mk k n m kid).parts = 1 + sumTo (fun i => (kid i).parts) m := by conv => lhs; unfold Tr.parts
theorem depth_eq (k n : Int) (m : Nat) (kid : Nat → Tr) : (Tr.mk k n m kid).depth = maxTo (fun i => (kid i).depth) m + 1 := by conv => lhs; unfold Tr.depth
theorem Tr.parts_pos (T : Tr) : 1 ≤ T.parts := by cases T <;> simp [Tr.parts]
theorem Tr.depth_pos (T : Tr) : 1 ≤ T.depth := by cases T <;> simp [Tr.depth]
theorem Tr.len_range (T : Tr) : 0 ≤ T.len ∧ T.len ≤ 16384 := by
  cases T with
  | nil => simp [Tr.len]
  | mk k n m kid =>
    unfold Tr.len
    repeat' split
    all_goals first
      | omega
      | (rename_i h; refine ⟨Int.mul_nonneg (by omega) (by omega), h.2.2⟩)
theorem sumTo_le (f : Nat → Nat) (m i : Nat) (h : i < m) : f i ≤ sumTo f m := by
  induction m with
  | zero => omega
  | succ m ih =>
    show f i ≤ sumTo f m + f m
    by_cases e : i = m
    · subst e; omega
    · have := ih (by omega); omega
theorem sumTo_two (f : Nat → Nat) : sumTo f 2 = f 0 + f 1 := by simp [sumTo]
theorem sumTo_one (f : Nat → Nat) : sumTo f 1 = f 0 := by simp [sumTo]
theorem maxTo_two (f : Nat → Nat) : maxTo f 2 = max (f 0) (f 1) := by simp [maxTo]
theorem maxTo_one (f : Nat → Nat) : maxTo f 1 = f 0 := by simp [maxTo]
/-- What is said of the walker's answer. -/
def Good (p d : Nat) (r : Int × Nat) (len : Int) (parts depth : Nat) : Prop := 0 ≤ r.1 ∧ r.1 ≤ 16384 ∧ p + 1 ≤ r.2 ∧
    (r.1 ≠ 0 → r.1 = len ∧ r.2 = p + parts ∧ p + parts ≤ 4096 ∧ d + depth ≤ 17) ∧
    (len ≠ 0 → p + parts ≤ 4096 → d + depth ≤ 17 → r.1 = len ∧ r.2 = p + parts)
theorem good_no {p d q : Nat} {len : Int} {parts depth : Nat} (hq : p + 1 ≤ q) (h : len ≠ 0 → p + parts ≤ 4096 → d + depth ≤ 17 → False) : Good p d (0, q) len parts depth :=
  ⟨Int.le_refl _, show (0 : Int) ≤ 16384 by decide, hq, fun h => absurd rfl h, fun h1 h2 h3 => (h h1 h2 h3).elim⟩
theorem good_yes {p d q : Nat} {len : Int} {parts depth : Nat} (h0 : 0 ≤ len) (h1 : len ≤ 16384) (hq : q = p + parts) (hp : 1 ≤ parts) (h2 : p + parts ≤ 4096) (h3 : d + depth ≤ 17) : Good p d (len, q) len parts depth :=
  ⟨h0, h1, by show p + 1 ≤ q; omega, fun _ => ⟨rfl, hq, h2, h3⟩, fun _ _ _ => ⟨rfl, hq⟩⟩
/-- The walker's answer: the length, where the tree is small enough. -/
theorem wl_eq : ∀ (T : Tr) (p d : Nat), Good p d (T.wl p d) T.len T.parts T.depth := by
  intro T
  induction T with
  | nil =>
    intro p d
    have e1 : Tr.nil.wl p d = (0, p + 1) := by simp [Tr.wl]
    have e2 : Tr.nil.len = 0 := by simp [Tr.len]
    rw [e1, e2]
    exact good_no (Nat.le_refl _) fun h _ _ => absurd rfl h
  | mk k n m kid ih =>
    intro p d
    have pp := Tr.parts_pos (.mk k n m kid)
    have dp := Tr.depth_pos (.mk k n m kid)
    by_cases hg : 4096 < p + 1 ∨ 16 < d
    · have e : (Tr.mk k n m kid).wl p d = (0, p + 1) := by unfold Tr.wl; rw [if_pos hg]
      rw [e]
      exact good_no (Nat.le_refl _) fun _ _ _ => by omega
    by_cases k1 : k = 1
    · subst k1
      by_cases c : m = 0 ∧ 1 ≤ n ∧ n ≤ 64
      · have e : (Tr.mk 1 n m kid).wl p d = (n, p + 1) := by unfold Tr.wl; rw [if_neg hg, if_pos ⟨rfl, c⟩]
        have l : (Tr.mk 1 n m kid).len = n := by unfold Tr.len; rw [if_pos rfl, if_pos ⟨c.2.1, c.2.2, c.1⟩]
        obtain ⟨rfl, c1, c2⟩ := c
        rw [e, l]
        exact good_yes (by omega) (by omega) rfl (by omega) (show p + 1 ≤ 4096 by omega) (show d + 1 ≤ 17 by omega)
      · have e : (Tr.mk 1 n m kid).wl p d = (0, p + 1) := by
          unfold Tr.wl
          rw [if_neg hg, if_neg (fun h => c h.2), if_neg (by omega), if_neg (by omega), if_neg (by omega)]
        have l : (Tr.mk 1 n m kid).len = 0 := by unfold Tr.len; rw [if_pos rfl, if_neg (fun h => c ⟨h.2.2, h.1, h.2.1⟩)]
        rw [e, l]
        exact good_no (Nat.le_refl _) fun h _ _ => h rfl
    by_cases k2 : k = 2
    · subst k2
      by_cases c : m = 0 ∧ 2 ≤ n ∧ n ≤ 5
      · have e : (Tr.mk 2 n m kid).wl p d = (n, p + 1) := by unfold Tr.wl; rw [if_neg hg, if_neg (by omega), if_pos ⟨rfl, c⟩]
        have l : (Tr.mk 2 n m kid).len = n := by unfold Tr.len; rw [if_neg k1, if_pos rfl, if_pos ⟨c.2.1, c.2.2, c.1⟩]
        obtain ⟨rfl, c1, c2⟩ := c
        rw [e, l]
        exact good_yes (by omega) (by omega) rfl (by omega) (show p + 1 ≤ 4096 by omega) (show d + 1 ≤ 17 by omega)
      · have e : (Tr.mk 2 n m kid).wl p d = (0, p + 1) := by
          unfold Tr.wl
          rw [if_neg hg, if_neg (by omega), if_neg (fun h => c h.2), if_neg (by omega), if_neg (by omega)]
        have l : (Tr.mk 2 n m kid).len = 0 := by unfold Tr.len; rw [if_neg k1, if_pos rfl, if_neg (fun h => c ⟨h.2.2, h.1, h.2.1⟩)]
        rw [e, l]
        exact good_no (Nat.le_refl _) fun h _ _ => h rfl
    by_cases k3 : k = 3
    · subst k3
      by_cases c : m = 2 ∧ n = 0
      · obtain ⟨rfl, rfl⟩ := c
        have a := ih 0 (p + 1) (d + 1)
        have b := ih 1 ((kid 0).wl (p + 1) (d + 1)).2 (d + 1)
        have e : (Tr.mk 3 0 2 kid).wl p d = (if ((kid 0).wl (p + 1) (d + 1)).1 < 2 then (0, ((kid 0).wl (p + 1) (d + 1)).2)
             else if ((kid 1).wl ((kid 0).wl (p + 1) (d + 1)).2 (d + 1)).1 < 2 ∨ 16384 < ((kid 0).wl (p + 1) (d + 1)).1 * ((kid 1).wl ((kid 0).wl (p + 1) (d + 1)).2 (d + 1)).1 then (0, ((kid 1).wl ((kid 0).wl (p + 1) (d + 1)).2 (d + 1)).2)
             else (((kid 0).wl (p + 1) (d + 1)).1 * ((kid 1).wl ((kid 0).wl (p + 1) (d + 1)).2 (d + 1)).1, ((kid 1).wl ((kid 0).wl (p + 1) (d + 1)).2 (d + 1)).2)) := by
          conv => lhs; unfold Tr.wl
          rw [if_neg hg, if_neg (by omega), if_neg (by omega), if_pos ⟨rfl, rfl, rfl⟩]
        have l : (Tr.mk 3 0 2 kid).len = (if 2 ≤ (kid 0).len ∧ 2 ≤ (kid 1).len ∧ (kid 0).len * (kid 1).len ≤ 16384 then (kid 0).len * (kid 1).len else 0) := by
          conv => lhs; unfold Tr.len
          rw [if_neg k1, if_neg k2, if_pos rfl, if_pos ⟨rfl, rfl⟩]
        have hp : (Tr.mk 3 0 2 kid).parts = 1 + ((kid 0).parts + (kid 1).parts) := by conv => lhs; unfold Tr.parts
                                                                                      rw [sumTo_two]
        have hd : (Tr.mk 3 0 2 kid).depth = max (kid 0).depth (kid 1).depth + 1 := by conv => lhs; unfold Tr.depth
                                                                                      rw [maxTo_two]
        rw [e, l, hp, hd]
        have pa := (kid 0).parts_pos
        have pb := (kid 1).parts_pos
        have da := (kid 0).depth_pos
        have db := (kid 1).depth_pos
        clear e l hp hd ih pp dp
        generalize (kid 1).wl ((kid 0).wl (p + 1) (d + 1)).2 (d + 1) = B at *
        generalize (kid 0).wl (p + 1) (d + 1) = A at *
        generalize (kid 0).len = la at *
        generalize (kid 1).len = lb at *
        generalize (kid 0).parts = qa at *
        generalize (kid 1).parts = qb at *
        generalize (kid 0).depth = ea at *
        generalize (kid 1).depth = eb at *
        obtain ⟨a1, a2, a3, a4, a5⟩ := a
        obtain ⟨b1, b2, b3, b4, b5⟩ := b
        by_cases hA : A.1 < 2
        · rw [if_pos hA]
          refine good_no (by omega) fun h1 h2 h3 => ?_
          by_cases hc : 2 ≤ la ∧ 2 ≤ lb ∧ la * lb ≤ 16384
          · have := a5 (by omega) (by omega) (by omega); omega
          · rw [if_neg hc] at h1; exact h1 rfl
        · rw [if_neg hA]
          obtain ⟨x1, x2, x3, x4⟩ := a4 (by omega)
          by_cases hB : B.1 < 2 ∨ 16384 < A.1 * B.1
          · rw [if_pos hB]
            refine good_no (by omega) fun h1 h2 h3 => ?_
            by_cases hc : 2 ≤ la ∧ 2 ≤ lb ∧ la * lb ≤ 16384
            · have := b5 (by omega) (by omega) (by omega)
              rw [this.1, x1] at hB
              omega
            · rw [if_neg hc] at h1; exact h1 rfl
          · rw [if_neg hB]
            obtain ⟨y1, y2, y3, y4⟩ := b4 (by omega)
            have hB2 : ¬ (lb < 2 ∨ 16384 < la * lb) := by rw [← x1, ← y1]; exact hB
            have hl2 : 2 ≤ la := by omega
            rw [if_pos (show 2 ≤ la ∧ 2 ≤ lb ∧ la * lb ≤ 16384 by omega), x1, y1]
            exact good_yes (Int.mul_nonneg (by omega) (by omega)) (by omega) (by omega) (by omega) (by omega) (by omega)
      · have e : (Tr.mk 3 n m kid).wl p d = (0, p + 1) := by
          unfold Tr.wl
          rw [if_neg hg, if_neg (by omega), if_neg (by omega), if_neg (fun h => c h.2), if_neg (by omega)]
        have l : (Tr.mk 3 n m kid).len = 0 := by unfold Tr.len; rw [if_neg k1, if_neg k2, if_pos rfl, if_neg (fun h => c ⟨h.2, h.1⟩)]
        rw [e, l]
        exact good_no (Nat.le_refl _) fun h _ _ => h rfl
    by_cases k4 : k = 4
    · subst k4
      by_cases c : m = 1 ∧ 2 ≤ n ∧ n ≤ 16384
      · obtain ⟨rfl, c1, c2⟩ := c
        have a := ih 0 (p + 1) (d + 1)
        have e : (Tr.mk 4 n 1 kid).wl p d = (if ((kid 0).wl (p + 1) (d + 1)).1 < 2 * n - 1 then (0, ((kid 0).wl (p + 1) (d + 1)).2) else (n, ((kid 0).wl (p + 1) (d + 1)).2)) := by
          conv => lhs; unfold Tr.wl
          rw [if_neg hg, if_neg (by omega), if_neg (by omega), if_neg (by omega), if_pos ⟨rfl, rfl, c1, c2⟩]
        have l : (Tr.mk 4 n 1 kid).len = (if 2 ≤ n ∧ n ≤ 8192 ∧ 1 = 1 then (if 2 * n - 1 ≤ (kid 0).len then n else 0) else 0) := by
          conv => lhs; unfold Tr.len
          rw [if_neg k1, if_neg k2, if_neg k3, if_pos rfl]
        have hp : (Tr.mk 4 n 1 kid).parts = 1 + (kid 0).parts := by conv => lhs; unfold Tr.parts
                                                                    rw [sumTo_one]
        have hd : (Tr.mk 4 n 1 kid).depth = (kid 0).depth + 1 := by conv => lhs; unfold Tr.depth
                                                                    rw [maxTo_one]
        rw [e, l, hp, hd]
        have pa := (kid 0).parts_pos
        have da := (kid 0).depth_pos
        have lr := (kid 0).len_range
        clear e l hp hd ih pp dp
        generalize (kid 0).wl (p + 1) (d + 1) = A at *
        generalize (kid 0).len = la at *
        generalize (kid 0).parts = qa at *
        generalize (kid 0).depth = ea at *
        obtain ⟨a1, a2, a3, a4, a5⟩ := a
        by_cases hA : A.1 < 2 * n - 1
        · rw [if_pos hA]
          refine good_no (by omega) fun h1 h2 h3 => ?_
          by_cases hc : 2 ≤ n ∧ n ≤ 8192 ∧ 1 = 1
          · rw [if_pos hc] at h1
            by_cases hl : 2 * n - 1 ≤ la
            · have := a5 (by omega) (by omega) (by omega); omega
            · rw [if_neg hl] at h1; exact h1 rfl
          · rw [if_neg hc] at h1; exact h1 rfl
        · rw [if_neg hA]
          obtain ⟨x1, x2, x3, x4⟩ := a4 (by omega)
          rw [if_pos (show 2 ≤ n ∧ n ≤ 8192 ∧ 1 = 1 by omega), if_pos (by omega)]
          exact good_yes (by omega) (by omega) (by omega) (by omega) (by omega) (by omega)
      · have e : (Tr.mk 4 n m kid).wl p d = (0, p + 1) := by
          unfold Tr.wl
          rw [if_neg hg, if_neg (by omega), if_neg (by omega), if_neg (by omega), if_neg (fun h => c h.2)]
        have l : (Tr.mk 4 n m kid).len = 0 := by
          unfold Tr.len; rw [if_neg k1, if_neg k2, if_neg k3, if_pos rfl, if_neg (fun h => c ⟨h.2.2, h.1, by omega⟩)]
        rw [e, l]
        exact good_no (Nat.le_refl _) fun h _ _ => h rfl
    · have e : (Tr.mk k n m kid).wl p d = (0, p + 1) := by
        unfold Tr.wl
        rw [if_neg hg, if_neg (fun h => k1 h.1), if_neg (fun h => k2 h.1), if_neg (fun h => k3 h.1), if_neg (fun h => k4 h.1)]
      have l : (Tr.mk k n m kid).len = 0 := by unfold Tr.len; rw [if_neg k1, if_neg k2, if_neg k3, if_neg k4]
      rw [e, l]
      exact good_no (Nat.le_refl _) fun h _ _ => h rfl
theorem wl1 (n : Int) (m : Nat) (kid : Nat → Tr) (p d : Nat) (hg : ¬ (4096 < p + 1 ∨ 16 < d)) : (Tr.mk 1 n m kid).wl p d = if m = 0 ∧ 1 ≤ n ∧ n ≤ 64 then (n, p + 1) else (0, p + 1) := by
  conv => lhs; unfold Tr.wl
  rw [if_neg hg]
  by_cases c : m = 0 ∧ 1 ≤ n ∧ n ≤ 64
  · rw [if_pos ⟨rfl, c⟩, if_pos c]
  · rw [if_neg (fun h => c h.2), if_neg (by omega), if_neg (by omega), if_neg (by omega), if_neg c]
theorem wl2 (n : Int) (m : Nat) (kid : Nat → Tr) (p d : Nat) (hg : ¬ (4096 < p + 1 ∨ 16 < d)) : (Tr.mk 2 n m kid).wl p d = if m = 0 ∧ 2 ≤ n ∧ n ≤ 5 then (n, p + 1) else (0, p + 1) := by
  conv => lhs; unfold Tr.wl
  rw [if_neg hg, if_neg (by omega)]
  by_cases c : m = 0 ∧ 2 ≤ n ∧ n ≤ 5
  · rw [if_pos ⟨rfl, c⟩, if_pos c]
  · rw [if_neg (fun h => c h.2), if_neg (by omega), if_neg (by omega), if_neg c]
theorem wl3 (n : Int) (m : Nat) (kid : Nat → Tr) (p d : Nat) (hg : ¬ (4096 < p + 1 ∨ 16 < d)) : (Tr.mk 3 n m kid).wl p d = if m = 2 ∧ n = 0 then
      (if ((kid 0).wl (p + 1) (d + 1)).1 < 2 then (0, ((kid 0).wl (p + 1) (d + 1)).2)
       else if ((kid 1).wl ((kid 0).wl (p + 1) (d + 1)).2 (d + 1)).1 < 2 ∨ 16384 < ((kid 0).wl (p + 1) (d + 1)).1 * ((kid 1).wl ((kid 0).wl (p + 1) (d + 1)).2 (d + 1)).1 then (0, ((kid 1).wl ((kid 0).wl (p + 1) (d + 1)).2 (d + 1)).2)
       else (((kid 0).wl (p + 1) (d + 1)).1 * ((kid 1).wl ((kid 0).wl (p + 1) (d + 1)).2 (d + 1)).1, ((kid 1).wl ((kid 0).wl (p + 1) (d + 1)).2 (d + 1)).2)) else (0, p + 1) := by
  conv => lhs; unfold Tr.wl
  rw [if_neg hg, if_neg (by omega), if_neg (by omega)]
  by_cases c : m = 2 ∧ n = 0
  · rw [if_pos ⟨rfl, c⟩]; rw [if_pos c]
  · rw [if_neg (fun h => c h.2), if_neg (by omega)]; rw [if_neg c]
theorem wl4 (n : Int) (m : Nat) (kid : Nat → Tr) (p d : Nat) (hg : ¬ (4096 < p + 1 ∨ 16 < d)) : (Tr.mk 4 n m kid).wl p d = if m = 1 ∧ 2 ≤ n ∧ n ≤ 16384 then
      (if ((kid 0).wl (p + 1) (d + 1)).1 < 2 * n - 1 then (0, ((kid 0).wl (p + 1) (d + 1)).2) else (n, ((kid 0).wl (p + 1) (d + 1)).2)) else (0, p + 1) := by
  conv => lhs; unfold Tr.wl
  rw [if_neg hg, if_neg (by omega), if_neg (by omega), if_neg (by omega)]
  by_cases c : m = 1 ∧ 2 ≤ n ∧ n ≤ 16384
  · rw [if_pos ⟨rfl, c⟩]; rw [if_pos c]
  · rw [if_neg (fun h => c h.2)]; rw [if_neg c]
theorem wl0 (k n : Int) (m : Nat) (kid : Nat → Tr) (p d : Nat) (hg : ¬ (4096 < p + 1 ∨ 16 < d)) (k1 : ¬ k = 1) (k2 : ¬ k = 2) (k3 : ¬ k = 3) (k4 : ¬ k = 4) : (Tr.mk k n m kid).wl p d = (0, p + 1) := by
  conv => lhs; unfold Tr.wl
  rw [if_neg hg, if_neg (fun h => k1 h.1), if_neg (fun h => k2 h.1), if_neg (fun h => k3 h.1), if_neg (fun h => k4 h.1)]
theorem wl_Len (T : Tr) : (T.wl 0 1).1 = T.Len := by
  obtain ⟨h1, h2, h3, h4, h5⟩ := wl_eq T 0 1
  unfold Tr.Len
  by_cases h : (T.wl 0 1).1 = 0
  · rw [h]
    split
    · rename_i hc
      by_cases hl : T.len = 0
      · exact hl.symm
      · have := (h5 hl (by omega) (by omega)).1; omega
    · rfl
  · obtain ⟨a, b, c, d⟩ := h4 h
    rw [if_pos ⟨by omega, by omega⟩, a]
end Go.Ord
