/-
  What the cheapest order is like: its cost's range, how many parts; a power of two always has one.
-/
import Derived.Test.YtgjlldapnodfbaaDoorOBest
namespace Go.Ord
open Go.Pr
/-- A policy that Check lets by. -/
structure Pol.Good (p : Pol) : Prop where
  d1 : 2 ≤ p.D
  d2 : p.D ≤ 64
  p1 : 2 ≤ p.P
  p2 : p.P ≤ p.D
  fl : ∀ r ∈ p.fl, 2 ≤ r ∧ r ≤ 5
  fn : p.fl.length ≤ 4
/-- At most so many parts. -/
def bound (n : Nat) : Nat := 2 * Nat.log2 n + 1 + (if 2 ^ Nat.log2 n = n then 0 else 32)
def Ok (B : Nat) (b : Option (Tr × Int)) : Prop := ∀ T C, b = some (T, C) → 0 ≤ C ∧ C ≤ 4611686018427387905 ∧ T.parts ≤ B
theorem Ok.none (B : Nat) : Ok B none := fun _ _ h => by cases h
theorem Ok.offer {B : Nat} {b : Option (Tr × Int)} {T : Tr} {c : Int} (h : Ok B b) (h0 : 0 ≤ c) (h1 : c ≤ 4611686018427387905) (hp : T.parts ≤ B) : Ok B (offer b T c) := by
  intro S C e
  cases b with
  | none => cases e; exact ⟨h0, h1, hp⟩
  | some x =>
    obtain ⟨T0, c0⟩ := x
    unfold Ord.offer at e
    simp only at e
    split at e
    · cases e; exact ⟨h0, h1, hp⟩
    · exact h S C e
theorem Ok.fold {α : Type} {B : Nat} {f : Option (Tr × Int) → α → Option (Tr × Int)} : ∀ (l : List α) (b : Option (Tr × Int)), Ok B b → (∀ a ∈ l, ∀ b, Ok B b → Ok B (f b a)) → Ok B (l.foldl f b)
  | [], _, h, _ => h
  | a :: l, b, h, hf => Ok.fold l _ (hf a (List.mem_cons_self ..) b h) fun x hx => hf x (List.mem_cons_of_mem _ hx)
theorem leaf_parts (k a : Int) : (leaf k a).parts = 1 := by simp [leaf, Tr.parts, sumTo]
theorem times_parts (S T : Tr) : (S.times T).parts = 1 + (S.parts + T.parts) := by simp [Tr.times, Tr.parts, sumTo, two]
theorem blue_parts (n : Int) (T : Tr) : (T.blue n).parts = 1 + T.parts := by simp [Tr.blue, Tr.parts, sumTo]
theorem log2_div {n a : Nat} (hn : 1 ≤ n) (ha : 2 ≤ a) (hd : a ∣ n) : Nat.log2 (n / a) + 1 ≤ Nat.log2 n := by
  have h2 : n / a * 2 ≤ n := by
    have h1 := Nat.div_mul_le_self n a
    have h3 : n / a * 2 ≤ n / a * a := Nat.mul_le_mul_left _ ha
    omega
  have hpos : 1 ≤ n / a := Nat.div_pos (Nat.le_of_dvd hn hd) (by omega)
  have h4 : 2 ^ Nat.log2 (n / a) ≤ n / a := Nat.log2_self_le (by omega)
  refine (Nat.le_log2 (by omega)).2 ?_
  rw [Nat.pow_succ]
  omega
/-- What the heads are. -/
theorem heads_mem {p : Pol} (hp : p.Good) {a k : Int} (h : k ∈ p.heads a) : (k = 1 ∧ a ≤ p.D) ∨ (k = 2 ∧ 2 ≤ a ∧ a ≤ 5) := by
  unfold Pol.heads at h
  rw [List.mem_append] at h
  rcases h with h | h
  · by_cases c : a ≤ p.D
    · rw [if_pos c] at h; simp at h; exact .inl ⟨h, c⟩
    · rw [if_neg c] at h; cases h
  · by_cases c : p.flies a = true
    · rw [if_pos c] at h; simp at h
      exact .inr ⟨h, hp.fl a (of_decide_eq_true c)⟩
    · rw [if_neg c] at h; cases h
theorem leaf_len {p : Pol} (hp : p.Good) {a k : Int} (ha : 1 ≤ a) (h : k ∈ p.heads a) : (leaf k a).len = a := by
  rcases heads_mem hp h with ⟨rfl, h1⟩ | ⟨rfl, h1, h2⟩
  · unfold leaf; rw [len1, if_pos ⟨ha, by have := hp.d2; omega, rfl⟩]
  · unfold leaf; rw [len2, if_pos ⟨h1, h2, rfl⟩]
theorem sat_leaf {p : Pol} (hp : p.Good) {a k : Int} (ha : 1 ≤ a) (h : k ∈ p.heads a) : 0 ≤ sat (leaf k a).C ∧ sat (leaf k a).C ≤ 4611686018427387905 :=
  sat_range _ (C_nonneg _ (by rw [leaf_len hp ha h]; omega))
theorem bound_one (n : Nat) : 1 ≤ bound n := by unfold bound; omega
theorem bound_div {n a : Nat} (hn : 1 ≤ n) (ha : 2 ≤ a) (hd : a ∣ n) : bound (n / a) + 2 ≤ bound n := by
  have hl := log2_div hn ha hd
  unfold bound
  by_cases c : 2 ^ Nat.log2 n = n
  · have hdv : n / a ∣ 2 ^ Nat.log2 n := by rw [c]; exact Nat.div_dvd_of_dvd hd
    obtain ⟨j, e⟩ := dvd_two _ _ hdv
    rw [if_pos c, if_pos (by rw [e, Nat.log2_two_pow])]
    omega
  · rw [if_neg c]
    split <;> omega
theorem bound_two {k : Nat} (hk : k ≤ 14) : bound (2 ^ k) ≤ 29 := by
  unfold bound
  rw [Nat.log2_two_pow, if_pos rfl]
  omega
theorem bound_small {n : Nat} (hn : 1 ≤ n) (h : n ≤ 16384) : bound n ≤ 100 := by
  have h1 : 2 ^ Nat.log2 n ≤ n := Nat.log2_self_le (by omega)
  have h2 : Nat.log2 n ≤ 14 := by
    rcases Nat.lt_or_ge 14 (Nat.log2 n) with c | c
    · have := Nat.pow_le_pow_right (show 0 < 2 by decide) (show 15 ≤ Nat.log2 n from c)
      omega
    · exact c
  unfold bound
  split <;> omega
theorem best_ok {p : Pol} (hp : p.Good) : ∀ (r n : Nat), rank n ≤ r → 1 ≤ n → Ok (bound n) (best p n) := by
  intro r
  induction r with
  | zero => intro n h hn; have := (rank_le n).1; omega
  | succ r ih =>
    intro n hr hn
    rw [best_eq hp.p1 hn]
    have h1 : Ok (bound n) (headStep p n) := Ok.fold _ _ (Ok.none _) fun k hk b hb => by
      obtain ⟨x0, x1⟩ := sat_leaf hp (by omega) hk
      exact hb.offer x0 x1 (by rw [leaf_parts]; exact bound_one n)
    have h2 : Ok (bound n) ((divs n).foldl (divStep p (best p) n) (headStep p n)) := Ok.fold _ _ h1 fun a ha b hb => by
      have hd := (mem_divs (by omega)).1 ha
      unfold divStep
      split
      · exact hb
      · rename_i hc
        have hq : 1 ≤ n / a := Nat.div_pos (Nat.le_of_dvd hn hd) (by omega)
        have hI := ih (n / a) (by have := rank_div hn (show 2 ≤ a by omega) hd; omega) hq
        cases hbb : best p (n / a) with
        | none => exact hb
        | some x =>
          obtain ⟨T, y⟩ := x
          obtain ⟨y0, y1, hT⟩ := hI T y hbb
          refine Ok.fold _ _ hb fun k hk b hb => ?_
          obtain ⟨x0, x1⟩ := sat_leaf hp (a := (a : Int)) (by omega) hk
          obtain ⟨z0, z1⟩ := sat_range _ (tcost_nonneg (a : Int) ((n / a : Nat) : Int) (sat (leaf k a).C) y (k == 2) (by omega) (by omega) x0 y0)
          refine hb.offer z0 z1 ?_
          rw [times_parts, leaf_parts]
          have := bound_div hn (show 2 ≤ a by omega) hd
          omega
    unfold bestStep blueStep
    split
    · rename_i hh
      obtain ⟨hrk, hle⟩ := hard_rank hn hp.p1 hh
      obtain ⟨t1, t2, k, t3⟩ := twoOf_is (N := 2 * n - 1) (by omega) (by omega)
      have hk : k ≤ 14 := by
        rcases Nat.lt_or_ge 14 k with c | c
        · have := Nat.pow_le_pow_right (show 0 < 2 by decide) (show 15 ≤ k from c)
          omega
        · exact c
      have h14 : twoOf (2 * n - 1) ≤ 16384 := by rw [t3]; exact Nat.pow_le_pow_right (show 0 < 2 by decide) hk
      have hI := ih (twoOf (2 * n - 1)) (by rw [t3, rank_two, ← t3]; omega) (by omega)
      cases hbb : best p (twoOf (2 * n - 1)) with
      | none => exact h2
      | some x =>
        obtain ⟨T, y⟩ := x
        obtain ⟨y0, y1, hT⟩ := hI T y hbb
        rw [t3] at hT
        have hb2 := bound_two hk
        have hbn : 33 ≤ bound n := by
          unfold bound
          have : ¬ 2 ^ Nat.log2 n = n := fun e => by
            have := rank_two (Nat.log2 n)
            rw [e] at this
            omega
          rw [if_neg this]; omega
        obtain ⟨z0, z1⟩ := sat_range (bcost (n : Int) (twoOf (2 * n - 1) : Nat) y) (by unfold bcost; omega)
        exact h2.offer z0 z1 (by rw [blue_parts]; omega)
    · exact h2
/-- Offers never lose what is there. -/
theorem offer_some (b : Option (Tr × Int)) (T : Tr) (c : Int) : (offer b T c).isSome = true := by
  cases b with
  | none => rfl
  | some x => unfold offer; simp only; split <;> rfl
theorem fold_some {α : Type} {f : Option (Tr × Int) → α → Option (Tr × Int)} : ∀ (l : List α) (b : Option (Tr × Int)), b.isSome = true → (∀ a ∈ l, ∀ b, b.isSome = true → (f b a).isSome = true) → (l.foldl f b).isSome = true
  | [], _, h, _ => h
  | a :: l, b, h, hf => fold_some l _ (hf a (List.mem_cons_self ..) b h) fun x hx => hf x (List.mem_cons_of_mem _ hx)
theorem fold_hit {α : Type} {f : Option (Tr × Int) → α → Option (Tr × Int)} {x : α} : ∀ (l : List α) (b : Option (Tr × Int)), x ∈ l → (∀ b, (f b x).isSome = true) → (∀ a ∈ l, ∀ b, b.isSome = true → (f b a).isSome = true) → (l.foldl f b).isSome = true
  | [], _, h, _, _ => by cases h
  | a :: l, b, h, hx, hf => by
    rw [List.foldl_cons]
    rcases List.mem_cons.1 h with rfl | h
    · exact fold_some l _ (hx b) fun y hy => hf y (List.mem_cons_of_mem _ hy)
    · exact fold_hit l _ h hx fun y hy => hf y (List.mem_cons_of_mem _ hy)
theorem head_one {p : Pol} {a : Int} (h : a ≤ p.D) : (1 : Int) ∈ p.heads a := by
  unfold Pol.heads; rw [if_pos h]; exact List.mem_append_left _ (List.mem_singleton.2 rfl)
theorem divStep_keeps {p : Pol} {r : Nat → Option (Tr × Int)} {n a : Nat} {b : Option (Tr × Int)} (h : b.isSome = true) : (divStep p r n b a).isSome = true := by
  unfold divStep
  split
  · exact h
  · split
    · exact h
    · exact fold_some _ _ h fun _ _ _ _ => offer_some _ _ _
theorem blueStep_keeps {p : Pol} {r : Nat → Option (Tr × Int)} {n : Nat} {b : Option (Tr × Int)} (h : b.isSome = true) : (blueStep p r n b).isSome = true := by
  unfold blueStep
  split
  · split
    · exact h
    · exact offer_some _ _ _
  · exact h
/-- A power of two always has an order. -/
theorem two_some {p : Pol} (hp : p.Good) : ∀ k : Nat, (best p (2 ^ k)).isSome = true
  | 0 => by
    rw [best_eq hp.p1 (Nat.le_refl _)]
    refine blueStep_keeps (fold_some _ _ ?_ fun _ _ _ h => divStep_keeps h)
    exact fold_hit _ _ (head_one (by have := hp.d1; show (1 : Int) ≤ p.D; omega)) (fun _ => offer_some _ _ _) fun _ _ _ _ => offer_some _ _ _
  | 1 => by
    rw [best_eq hp.p1 (show 1 ≤ 2 ^ 1 by decide)]
    refine blueStep_keeps (fold_some _ _ ?_ fun _ _ _ h => divStep_keeps h)
    exact fold_hit _ _ (head_one (by have := hp.d1; show (2 : Int) ≤ p.D; omega)) (fun _ => offer_some _ _ _) fun _ _ _ _ => offer_some _ _ _
  | k + 2 => by
    have hk := two_some hp (k + 1)
    have e1 : 2 ^ (k + 2) = 2 ^ (k + 1) * 2 := Nat.pow_succ ..
    have e0 : 2 ^ (k + 1) = 2 ^ k * 2 := Nat.pow_succ ..
    have hpos : 0 < 2 ^ k := Nat.pow_pos (by decide)
    rw [best_eq hp.p1 (show 1 ≤ 2 ^ (k + 2) by omega)]
    refine blueStep_keeps (fold_hit (x := 2) _ _ ((mem_divs (by omega)).2 ⟨2 ^ (k + 1), by omega⟩) (fun b => ?_) fun _ _ _ h => divStep_keeps h)
    unfold divStep
    have e2 : 2 ^ (k + 2) / 2 = 2 ^ (k + 1) := by omega
    rw [if_neg (by omega), e2]
    cases hb : best p (2 ^ (k + 1)) with
    | none => rw [hb] at hk; cases hk
    | some x =>
      exact fold_hit _ _ (head_one (by have := hp.d1; show (2 : Int) ≤ p.D; omega)) (fun _ => offer_some _ _ _) fun _ _ _ _ => offer_some _ _ _
end Go.Ord
