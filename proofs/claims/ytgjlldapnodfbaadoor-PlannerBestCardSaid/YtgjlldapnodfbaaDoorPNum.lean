/-
  Plain number theory for the package primes: least divisors, prime factors, products of them, divisors and how many they are.
-/
namespace Go.Pr

/-- The least divisor from d on, tried k times. -/
def minFrom (n d : Nat) : Nat → Nat
  | 0 => n
  | k + 1 => if n % d = 0 then d else minFrom n (d + 1) k
def minFac (n : Nat) : Nat := minFrom n 2 n
def Pri (p : Nat) : Prop := 2 ≤ p ∧ ∀ q, 2 ≤ q → q < p → ¬ q ∣ p

theorem minFrom_spec (n : Nat) (hn : 2 ≤ n) : ∀ k d, 2 ≤ d → n ≤ d + k → (∀ q, 2 ≤ q → q < d → ¬ q ∣ n) →
    minFrom n d k ∣ n ∧ 2 ≤ minFrom n d k ∧ ∀ q, 2 ≤ q → q < minFrom n d k → ¬ q ∣ n
  | 0, d, hd, hk, hno => ⟨Nat.dvd_refl n, hn, fun q h1 h2 => hno q h1 (by have : minFrom n d 0 = n := rfl; omega)⟩
  | k + 1, d, hd, hk, hno => by
    unfold minFrom
    split
    · rename_i h; exact ⟨Nat.dvd_of_mod_eq_zero h, hd, hno⟩
    · rename_i h
      exact minFrom_spec n hn k (d + 1) (by omega) (by omega) fun q h1 h2 => by
        rcases Nat.lt_or_ge q d with h3 | h3
        · exact hno q h1 h3
        · obtain rfl : q = d := by omega
          exact fun h4 => h (Nat.mod_eq_zero_of_dvd h4)
theorem minFac_spec {n : Nat} (hn : 2 ≤ n) : minFac n ∣ n ∧ 2 ≤ minFac n ∧ ∀ q, 2 ≤ q → q < minFac n → ¬ q ∣ n :=
  minFrom_spec n hn n 2 (by omega) (by omega) fun q h1 h2 => by omega
theorem minFac_pri {n : Nat} (hn : 2 ≤ n) : Pri (minFac n) := by
  obtain ⟨h1, h2, h3⟩ := minFac_spec hn
  exact ⟨h2, fun q hq hlt hd => h3 q hq hlt (Nat.dvd_trans hd h1)⟩
theorem minFac_le {n q : Nat} (hn : 2 ≤ n) (hq : 2 ≤ q) (hd : q ∣ n) : minFac n ≤ q :=
  Nat.le_of_not_lt fun h => (minFac_spec hn).2.2 q hq h hd
theorem minFac_eq {n p : Nat} (hp : 2 ≤ p) (hd : p ∣ n) (hno : ∀ q, 2 ≤ q → q < p → ¬ q ∣ n) (hn : 0 < n) : minFac n = p := by
  have hn2 : 2 ≤ n := Nat.le_trans hp (Nat.le_of_dvd hn hd)
  obtain ⟨h1, h2, h3⟩ := minFac_spec hn2
  rcases Nat.lt_trichotomy (minFac n) p with h | h | h
  · exact absurd h1 (hno _ h2 h)
  · exact h
  · exact absurd hd (h3 _ hp h)

def factsF : Nat → Nat → List Nat
  | 0, _ => []
  | k + 1, n => if n < 2 then [] else minFac n :: factsF k (n / minFac n)
/-- The prime factors of n, rising. -/
def facts (n : Nat) : List Nat := factsF n n

theorem div_lt {n : Nat} (hn : 2 ≤ n) : n / minFac n < n := Nat.div_lt_self (by omega) (minFac_spec hn).2.1
theorem factsF_eq : ∀ k j n, n ≤ k → n ≤ j → factsF k n = factsF j n
  | 0, 0, n, _, _ => rfl
  | 0, j + 1, n, h, _ => by
    unfold factsF; rw [if_pos (by omega)]
  | k + 1, 0, n, _, h => by
    unfold factsF; rw [if_pos (by omega)]
  | k + 1, j + 1, n, hk, hj => by
    unfold factsF
    by_cases h : n < 2
    · rw [if_pos h, if_pos h]
    · rw [if_neg h, if_neg h]
      have := div_lt (n := n) (by omega)
      rw [factsF_eq k j (n / minFac n) (by omega) (by omega)]
theorem facts_small {n : Nat} (h : n < 2) : facts n = [] := by
  unfold facts
  match n, h with
  | 0, _ => rfl
  | 1, _ => rfl
theorem facts_step {n : Nat} (h : 2 ≤ n) : facts n = minFac n :: facts (n / minFac n) := by
  unfold facts
  match n, h with
  | n + 2, h =>
    conv => lhs; unfold factsF
    rw [if_neg (by omega)]
    have := div_lt (n := n + 2) (by omega)
    rw [factsF_eq (n + 1) ((n + 2) / minFac (n + 2)) _ (by omega) (Nat.le_refl _)]
theorem facts_cons {n p : Nat} (hp : 2 ≤ p) (hd : p ∣ n) (hno : ∀ q, 2 ≤ q → q < p → ¬ q ∣ n) (hn : 0 < n) : facts n = p :: facts (n / p) := by
  have hn2 : 2 ≤ n := Nat.le_trans hp (Nat.le_of_dvd hn hd)
  rw [facts_step hn2, minFac_eq hp hd hno hn]
/-- No divisor up to the root: n is 1 or a prime. -/
theorem pri_of_root {n p : Nat} (hn : 2 ≤ n) (hno : ∀ q, 2 ≤ q → q < p → ¬ q ∣ n) (hp : n < p * p) : Pri n := by
  refine ⟨hn, fun q h1 h2 hd => ?_⟩
  obtain ⟨c, rfl⟩ := hd
  have hq : p ≤ q := Nat.le_of_not_lt fun h => hno q h1 h ⟨c, rfl⟩
  have hc2 : 2 ≤ c := by
    rcases c with _ | _ | c
    · simp at hn
    · simp at h2
    · omega
  have hc : p ≤ c := Nat.le_of_not_lt fun h => hno c hc2 h ⟨q, Nat.mul_comm _ _⟩
  have := Nat.mul_le_mul hq hc
  omega
theorem facts_pri {n : Nat} (h : Pri n) : facts n = [n] := by
  rw [facts_cons h.1 (Nat.dvd_refl n) h.2 (by have := h.1; omega), Nat.div_self (by have := h.1; omega), facts_small (by omega)]
theorem facts_end {n p : Nat} (h0 : 0 < n) (hno : ∀ q, 2 ≤ q → q < p → ¬ q ∣ n) (hp : n < p * p) : facts n = if 1 < n then [n] else [] := by
  split
  · exact facts_pri (pri_of_root (by omega) hno hp)
  · exact facts_small (by omega)

theorem facts_ind (P : Nat → List Nat → Prop) (h0 : ∀ n, n < 2 → P n []) (h1 : ∀ n, 2 ≤ n → P (n / minFac n) (facts (n / minFac n)) → P n (minFac n :: facts (n / minFac n))) : ∀ n, P n (facts n) := by
  intro n
  induction n using Nat.strongRecOn with
  | _ n ih =>
    rcases Nat.lt_or_ge n 2 with h | h
    · rw [facts_small h]; exact h0 n h
    · rw [facts_step h]; exact h1 n h (ih _ (div_lt h))
theorem facts_prod (n : Nat) (h : 1 ≤ n) : (facts n).prod = n := by
  revert h
  refine facts_ind (fun n l => 1 ≤ n → l.prod = n) (fun n hn h => ?_) (fun n hn ih _ => ?_) n
  · simp; omega
  · obtain ⟨h1, h2, _⟩ := minFac_spec hn
    have hq : 1 ≤ n / minFac n := Nat.div_pos (Nat.le_of_dvd (by omega) h1) (by omega)
    rw [List.prod_cons, ih hq, Nat.mul_div_cancel' h1]
theorem facts_mem {n p : Nat} (h : p ∈ facts n) : Pri p ∧ p ∣ n := by
  revert h
  refine facts_ind (fun n l => p ∈ l → Pri p ∧ p ∣ n) (fun n hn h => by cases h) (fun n hn ih h => ?_) n
  have hd := (minFac_spec hn).1
  rcases List.mem_cons.1 h with rfl | h
  · exact ⟨minFac_pri hn, hd⟩
  · obtain ⟨h1, h2⟩ := ih h
    exact ⟨h1, Nat.dvd_trans h2 (Nat.div_dvd_of_dvd hd)⟩
theorem facts_ge {n p : Nat} (hn : 2 ≤ n) (h : p ∈ facts n) : minFac n ≤ p := by
  obtain ⟨h1, h2⟩ := facts_mem h
  exact minFac_le hn h1.1 h2
theorem facts_sorted (n : Nat) : (facts n).Pairwise (· ≤ ·) := by
  refine facts_ind (fun n l => l.Pairwise (· ≤ ·)) (fun n hn => List.Pairwise.nil) (fun n hn ih => ?_) n
  refine List.Pairwise.cons (fun p hp => ?_) ih
  obtain ⟨h1, h2⟩ := facts_mem hp
  exact minFac_le hn h1.1 (Nat.dvd_trans h2 (Nat.div_dvd_of_dvd (minFac_spec hn).1))
theorem facts_one (n : Nat) : (facts n).length = 1 ↔ Pri n := by
  constructor
  · intro h
    rcases Nat.lt_or_ge n 2 with hn | hn
    · rw [facts_small hn] at h; cases h
    · have e := facts_step hn
      rw [e] at h
      simp at h
      have hp := facts_prod n (by omega)
      rw [e, h] at hp
      simp at hp
      rw [← hp]; exact minFac_pri hn
  · intro h; rw [facts_pri h]; rfl
instance (p : Nat) : Decidable (Pri p) := decidable_of_iff _ (facts_one p)

theorem Pri.pos {p : Nat} (h : Pri p) : 0 < p := Nat.lt_of_lt_of_le (by decide) h.1
theorem Pri.coprime {p a : Nat} (h : Pri p) (ha : ¬ p ∣ a) : Nat.Coprime p a := by
  have hg := Nat.gcd_dvd_left p a
  rcases Nat.lt_or_ge (Nat.gcd p a) 2 with h1 | h1
  · have : 0 < Nat.gcd p a := Nat.gcd_pos_of_pos_left _ h.pos
    exact Nat.coprime_iff_gcd_eq_one.2 (by omega)
  · rcases Nat.lt_or_ge (Nat.gcd p a) p with h2 | h2
    · exact absurd hg (h.2 _ h1 h2)
    · have : Nat.gcd p a = p := Nat.le_antisymm (Nat.le_of_dvd h.pos hg) h2
      exact absurd (this ▸ Nat.gcd_dvd_right p a) ha
theorem Pri.dvd_mul {p a b : Nat} (h : Pri p) (hd : p ∣ a * b) : p ∣ a ∨ p ∣ b := by
  by_cases ha : p ∣ a
  · exact Or.inl ha
  · exact Or.inr ((h.coprime ha).dvd_of_dvd_mul_left hd)
theorem Pri.dvd_pow {p a : Nat} (h : Pri p) : ∀ k, p ∣ a ^ k → p ∣ a
  | 0, hd => by rw [Nat.pow_zero] at hd; have := Nat.le_of_dvd (by omega) hd; have := h.1; omega
  | k + 1, hd => by
    rw [Nat.pow_succ] at hd
    rcases h.dvd_mul hd with h1 | h1
    · exact h.dvd_pow k h1
    · exact h1
theorem dvd_pri_pow {p d : Nat} (h : Pri p) : ∀ k, d ∣ p ^ k → ∃ i, i ≤ k ∧ d = p ^ i
  | 0, hd => ⟨0, Nat.le_refl _, by rw [Nat.pow_zero] at hd ⊢; exact Nat.dvd_one.1 hd⟩
  | k + 1, hd => by
    by_cases hp : p ∣ d
    · obtain ⟨c, rfl⟩ := hp
      have hd' : p * c ∣ p * p ^ k := by rw [Nat.pow_succ, Nat.mul_comm (p ^ k)] at hd; exact hd
      obtain ⟨i, hi, e⟩ := dvd_pri_pow h k (Nat.dvd_of_mul_dvd_mul_left h.pos hd')
      exact ⟨i + 1, by omega, by rw [e, Nat.pow_succ, Nat.mul_comm]⟩
    · rw [Nat.pow_succ] at hd
      obtain ⟨i, hi, e⟩ := dvd_pri_pow h k ((h.coprime hp).symm.dvd_of_dvd_mul_right hd)
      exact ⟨i, by omega, e⟩

/-! ### Divisors -/
def divs (n : Nat) : List Nat := (List.range' 1 n).filter fun d => n % d == 0
theorem mem_divs {n d : Nat} (hn : 0 < n) : d ∈ divs n ↔ d ∣ n := by
  unfold divs
  rw [List.mem_filter, List.mem_range'_1]
  constructor
  · intro ⟨_, h⟩; exact Nat.dvd_of_mod_eq_zero (by simpa using h)
  · intro h
    have := Nat.le_of_dvd hn h
    have := Nat.pos_of_dvd_of_pos h hn
    exact ⟨by omega, by simpa using Nat.mod_eq_zero_of_dvd h⟩
theorem divs_nodup (n : Nat) : (divs n).Nodup := List.Nodup.sublist List.filter_sublist List.nodup_range'
theorem divs_sorted (n : Nat) : (divs n).Pairwise (· < ·) := List.Pairwise.sublist List.filter_sublist List.pairwise_lt_range'
def num (n : Nat) : Nat := (divs n).length
theorem num_step {q m e : Nat} (hq : Pri q) (hm : 0 < m) (hqm : ¬ q ∣ m) : num (q ^ (e + 1) * m) = num (q ^ e * m) + num m := by
  have hpos : ∀ k, 0 < q ^ k := fun k => Nat.pow_pos hq.pos
  have hperm : (divs (q ^ (e + 1) * m)).Perm (divs (q ^ e * m) ++ (divs m).map (q ^ (e + 1) * ·)) := by
    rw [List.perm_ext_iff_of_nodup (divs_nodup _)]
    · intro x
      rw [List.mem_append, List.mem_map, mem_divs (Nat.mul_pos (hpos _) hm), mem_divs (Nat.mul_pos (hpos _) hm)]
      constructor
      · intro h
        obtain ⟨a, b, ha, hb, rfl⟩ := Nat.dvd_mul.1 h
        obtain ⟨i, hi, rfl⟩ := dvd_pri_pow hq _ ha
        rcases Nat.lt_or_ge i (e + 1) with h1 | h1
        · exact Or.inl (Nat.mul_dvd_mul (Nat.pow_dvd_pow _ (by omega)) hb)
        · obtain rfl : i = e + 1 := by omega
          exact Or.inr ⟨b, (mem_divs hm).2 hb, rfl⟩
      · rintro (h | ⟨b, hb, rfl⟩)
        · exact Nat.dvd_trans h (Nat.mul_dvd_mul (Nat.pow_dvd_pow _ (by omega)) (Nat.dvd_refl _))
        · exact Nat.mul_dvd_mul (Nat.dvd_refl _) ((mem_divs hm).1 hb)
    · rw [List.nodup_append]
      refine ⟨divs_nodup _, ?_, ?_⟩
      · refine List.Pairwise.map _ (fun a b hab => ?_) (divs_nodup m)
        intro h; exact hab (Nat.eq_of_mul_eq_mul_left (hpos _) h)
      · intro a ha b hb hab
        subst hab
        obtain ⟨c, _, rfl⟩ := List.mem_map.1 hb
        have h1 := (mem_divs (Nat.mul_pos (hpos _) hm)).1 ha
        rw [Nat.pow_succ, Nat.mul_assoc] at h1
        have h2 := Nat.dvd_of_mul_dvd_mul_left (hpos e) h1
        exact hqm (Nat.dvd_trans (Nat.dvd_mul_right _ _) h2)
  have := hperm.length_eq
  rw [List.length_append, List.length_map] at this
  exact this
theorem num_pow {q m : Nat} (hq : Pri q) (hm : 0 < m) (hqm : ¬ q ∣ m) : ∀ e, num (q ^ e * m) = (e + 1) * num m
  | 0 => by simp
  | e + 1 => by rw [num_step hq hm hqm, num_pow hq hm hqm e, Nat.add_mul (e + 1) 1, Nat.one_mul]
theorem num_one : num 1 = 1 := by decide
theorem split_pow {q : Nat} (hq : Pri q) : ∀ n, 0 < n → ∃ e m, n = q ^ e * m ∧ ¬ q ∣ m ∧ 0 < m := by
  intro n
  induction n using Nat.strongRecOn with
  | _ n ih =>
    intro hn
    by_cases hd : q ∣ n
    · obtain ⟨c, rfl⟩ := hd
      have hc : 0 < c := by rcases c with _ | c <;> simp_all
      have hlt : c < q * c := by have := Nat.mul_le_mul_right c hq.1; omega
      obtain ⟨e, m, h1, h2, h3⟩ := ih c hlt hc
      exact ⟨e + 1, m, by rw [h1, Nat.pow_succ, ← Nat.mul_assoc, Nat.mul_comm q], h2, h3⟩
    · exact ⟨0, n, by simp, hd, hn⟩

/-! ### How many divisors there are, at most -/
theorem pow4_le (b c : Nat) (e0 : Nat) (hb : ∀ e, e0 ≤ e → (e + 2) ^ 4 ≤ b * (e + 1) ^ 4) (h0 : ∀ e, e ≤ e0 → (e + 1) ^ 4 ≤ c * b ^ e) : ∀ e, (e + 1) ^ 4 ≤ c * b ^ e := by
  intro e
  induction e with
  | zero => exact h0 0 (by omega)
  | succ e ih =>
    rcases Nat.lt_or_ge e e0 with h | h
    · exact h0 (e + 1) (by omega)
    · have h1 := hb e h
      have h2 := Nat.mul_le_mul_left b ih
      have h3 : b * (c * b ^ e) = c * b ^ (e + 1) := by rw [Nat.pow_succ, Nat.mul_left_comm, Nat.mul_comm b (b ^ e)]
      exact Nat.le_trans h1 (h3 ▸ h2)
theorem ratio2 (e : Nat) (h : 5 ≤ e) : (e + 2) ^ 4 ≤ 2 * (e + 1) ^ 4 := by
  obtain ⟨k, rfl⟩ : ∃ k, e = k + 5 := ⟨e - 5, by omega⟩
  have e1 : (k + 5 + 2) ^ 4 = k ^ 4 + 28 * k ^ 3 + 294 * k ^ 2 + 1372 * k + 2401 := by grind
  have e2 : (k + 5 + 1) ^ 4 = k ^ 4 + 24 * k ^ 3 + 216 * k ^ 2 + 864 * k + 1296 := by grind
  rw [e1, e2]; omega
theorem ratio_up {b : Nat} (hb : 2 ≤ b) (e : Nat) (h : 5 ≤ e) : (e + 2) ^ 4 ≤ b * (e + 1) ^ 4 :=
  Nat.le_trans (ratio2 e h) (Nat.mul_le_mul_right _ hb)
theorem small6 (b c : Nat) (h : (List.range 6).all (fun e => decide ((e + 1) ^ 4 ≤ c * b ^ e)) = true) : ∀ e, e ≤ 5 → (e + 1) ^ 4 ≤ c * b ^ e := by
  intro e he
  simpa using List.all_eq_true.1 h e (List.mem_range.2 (by omega))
theorem four2 (e : Nat) : (e + 1) ^ 4 ≤ 41 * 2 ^ e := pow4_le 2 41 5 (fun e h => ratio_up (by omega) e h) (small6 _ _ (by decide)) e
theorem four3 (e : Nat) : (e + 1) ^ 4 ≤ 10 * 3 ^ e := pow4_le 3 10 5 (fun e h => ratio_up (by omega) e h) (small6 _ _ (by decide)) e
theorem four5 (e : Nat) : (e + 1) ^ 4 ≤ 4 * 5 ^ e := pow4_le 5 4 5 (fun e h => ratio_up (by omega) e h) (small6 _ _ (by decide)) e
theorem four7 (e : Nat) : (e + 1) ^ 4 ≤ 3 * 7 ^ e := pow4_le 7 3 5 (fun e h => ratio_up (by omega) e h) (small6 _ _ (by decide)) e
theorem four11 (e : Nat) : (e + 1) ^ 4 ≤ 2 * 11 ^ e := pow4_le 11 2 5 (fun e h => ratio_up (by omega) e h) (small6 _ _ (by decide)) e
theorem four13 (e : Nat) : (e + 1) ^ 4 ≤ 2 * 13 ^ e := pow4_le 13 2 5 (fun e h => ratio_up (by omega) e h) (small6 _ _ (by decide)) e
theorem four17 (q : Nat) (hq : 17 ≤ q) (e : Nat) : (e + 1) ^ 4 ≤ 1 * q ^ e :=
  pow4_le q 1 5 (fun e h => ratio_up (by omega) e h) (fun e he => by
    rw [Nat.one_mul]
    refine Nat.le_trans ?_ (Nat.pow_le_pow_left hq e)
    have := small6 17 1 (by decide) e he
    rwa [Nat.one_mul] at this) e
theorem num4_big : ∀ n, 0 < n → (∀ q, Pri q → q ∣ n → 17 ≤ q) → num n ^ 4 ≤ n := by
  intro n
  induction n using Nat.strongRecOn with
  | _ n ih =>
    intro hn hbig
    rcases Nat.lt_or_ge n 2 with h | h
    · obtain rfl : n = 1 := by omega
      decide
    · have hq := minFac_pri h
      have hd := (minFac_spec h).1
      obtain ⟨e, m, he, hm, hm0⟩ := split_pow hq n hn
      have hq17 := hbig _ hq hd
      generalize minFac n = q at *
      have he0 : 0 < e := by
        rcases e with _ | e
        · rw [Nat.pow_zero, Nat.one_mul] at he; exact absurd (he ▸ hd) hm
        · omega
      have hlt : m < n := by
        have h1 : 1 < q ^ e := Nat.one_lt_pow (by omega) (by omega)
        have := Nat.mul_le_mul_right m h1
        rw [he]; omega
      have h1 := ih m hlt hm0 fun r hr hrd => hbig r hr (by rw [he]; exact Nat.dvd_trans hrd (Nat.dvd_mul_left _ _))
      rw [he, num_pow hq hm0 hm, Nat.mul_pow]
      have h2 := four17 q hq17 e
      rw [Nat.one_mul] at h2
      exact Nat.mul_le_mul h2 h1
theorem num4_peel {q c : Nat} (hq : Pri q) (hc : ∀ e, (e + 1) ^ 4 ≤ c * q ^ e) (C n : Nat) (hn : 0 < n)
    (hP : ∀ m, m ∣ n → ¬ q ∣ m → 0 < m → num m ^ 4 ≤ C * m) : num n ^ 4 ≤ (c * C) * n := by
  obtain ⟨e, m, he, hm, hm0⟩ := split_pow hq n hn
  have h1 := hP m (he ▸ Nat.dvd_mul_left _ _) hm hm0
  rw [he, num_pow hq hm0 hm, Nat.mul_pow]
  have h2 := Nat.mul_le_mul (hc e) h1
  have : c * q ^ e * (C * m) = c * C * (q ^ e * m) := by
    rw [Nat.mul_assoc, Nat.mul_left_comm (q ^ e), ← Nat.mul_assoc]
  exact this ▸ h2
theorem pri2 : Pri 2 := by decide
theorem pri3 : Pri 3 := by decide
theorem pri5 : Pri 5 := by decide
theorem pri7 : Pri 7 := by decide
theorem pri11 : Pri 11 := by decide
theorem pri13 : Pri 13 := by decide
theorem num4 (n : Nat) (hn : 0 < n) : num n ^ 4 ≤ 19680 * n := by
  have key := num4_peel pri2 four2 480 n hn fun n2 d2 m2 p2 => by
    refine num4_peel pri3 four3 48 n2 p2 fun n3 d3 m3 p3 => ?_
    refine num4_peel pri5 four5 12 n3 p3 fun n5 d5 m5 p5 => ?_
    refine num4_peel pri7 four7 4 n5 p5 fun n7 d7 m7 p7 => ?_
    refine num4_peel pri11 four11 2 n7 p7 fun n11 d11 m11 p11 => ?_
    refine num4_peel pri13 four13 1 n11 p11 fun n13 d13 m13 p13 => ?_
    rw [Nat.one_mul]
    refine num4_big n13 p13 fun q hq hd => ?_
    refine Nat.le_of_not_lt fun hlt => ?_
    have h11 := Nat.dvd_trans hd d13
    have h7 := Nat.dvd_trans h11 d11
    have h5 := Nat.dvd_trans h7 d7
    have h3 := Nat.dvd_trans h5 d5
    have h2 := Nat.dvd_trans h3 d3
    have hq2 := hq.1
    have cases : q = 2 ∨ q = 3 ∨ q = 4 ∨ q = 5 ∨ q = 6 ∨ q = 7 ∨ q = 8 ∨ q = 9 ∨ q = 10 ∨ q = 11 ∨ q = 12 ∨ q = 13 ∨ q = 14 ∨ q = 15 ∨ q = 16 := by omega
    have n4 : ¬ Pri 4 := by decide
    have n6 : ¬ Pri 6 := by decide
    have n8 : ¬ Pri 8 := by decide
    have n9 : ¬ Pri 9 := by decide
    have n10 : ¬ Pri 10 := by decide
    have n12 : ¬ Pri 12 := by decide
    have n14 : ¬ Pri 14 := by decide
    have n15 : ¬ Pri 15 := by decide
    have n16 : ¬ Pri 16 := by decide
    rcases cases with rfl | rfl | rfl | rfl | rfl | rfl | rfl | rfl | rfl | rfl | rfl | rfl | rfl | rfl | rfl <;> first | exact m2 h2 | exact m3 h3 | exact m5 h5 | exact m7 h7 | exact m11 h11 | exact m13 hd | contradiction
  exact key
/-- No number up to 2^32 has more than 5000 divisors. -/
theorem num_le {n : Nat} (hn : 0 < n) (h : n ≤ 4294967296) : num n ≤ 5000 := by
  refine Nat.le_of_not_lt fun hlt => ?_
  have h1 := num4 n hn
  have h2 : 5001 ^ 4 ≤ num n ^ 4 := Nat.pow_le_pow_left hlt 4
  omega
/-- Reckoned by the factors: a run of equal factors, then the others. -/
def runs : List Nat → Nat → Nat → Nat → Nat
  | [], _, run, count => count * (run + 1)
  | p :: l, last, run, count => if p = last then runs l last (run + 1) count else runs l p 1 (count * (run + 1))
theorem prod_pos : ∀ {l : List Nat}, (∀ p ∈ l, Pri p) → 0 < l.prod
  | [], _ => by simp
  | p :: l, h => by
    rw [List.prod_cons]
    exact Nat.mul_pos (h p (by simp)).pos (prod_pos fun q hq => h q (by simp [hq]))
theorem dvd_prod {q : Nat} (hq : Pri q) : ∀ {l : List Nat}, (∀ p ∈ l, Pri p) → q ∣ l.prod → q ∈ l
  | [], _, hd => by simp at hd; have := hq.1; omega
  | p :: l, h, hd => by
    rw [List.prod_cons] at hd
    rcases hq.dvd_mul hd with h1 | h1
    · have hp := h p (by simp)
      rcases Nat.lt_or_ge q p with h2 | h2
      · exact absurd h1 (hp.2 q hq.1 h2)
      · have := Nat.le_of_dvd hp.pos h1
        obtain rfl : q = p := by omega
        simp
    · exact List.mem_cons_of_mem _ (dvd_prod hq (fun r hr => h r (by simp [hr])) h1)
theorem runs_num : ∀ (l : List Nat) (last run count : Nat), Pri last → (∀ p ∈ l, Pri p) → (∀ p ∈ l, last ≤ p) → l.Pairwise (· ≤ ·) →
    runs l last run count = count * num (last ^ run * l.prod)
  | [], last, run, count, hl, _, _, _ => by
    have := num_pow hl (m := 1) (by omega) (fun h => by have := Nat.le_of_dvd (by omega) h; have := hl.1; omega) run
    rw [num_one, Nat.mul_one, Nat.mul_one] at this
    simp [runs, this]
  | p :: l, last, run, count, hl, hp, hle, hs => by
    have hs' := List.pairwise_cons.1 hs
    unfold runs
    split
    · rename_i e
      subst e
      rw [runs_num l p (run + 1) count hl (fun q hq => hp q (by simp [hq])) (fun q hq => hle q (by simp [hq])) hs'.2, List.prod_cons, Nat.pow_succ, Nat.mul_assoc]
    · rename_i e
      rw [runs_num l p 1 _ (hp p (by simp)) (fun q hq => hp q (by simp [hq])) hs'.1 hs'.2, Nat.pow_one]
      have hlt : last < p := by have := hle p (by simp); omega
      have hno : ¬ last ∣ (p :: l).prod := fun hd => by
        have := dvd_prod hl hp hd
        rcases List.mem_cons.1 this with h1 | h1
        · omega
        · have := hs'.1 last h1; omega
      rw [num_pow hl (prod_pos hp) hno, List.prod_cons, Nat.mul_assoc]
/-- As many divisors as the factors say; the first 'last' is 0. -/
theorem runs_facts (n : Nat) (hn : 0 < n) : runs (facts n) 0 0 1 = num n := by
  have hp := facts_prod n hn
  have hq := fun p (h : p ∈ facts n) => (facts_mem h).1
  have hs := facts_sorted n
  generalize facts n = l at *
  cases l with
  | nil => rw [← hp]; decide
  | cons p l =>
    have hs' := List.pairwise_cons.1 hs
    have h0 : ¬ p = 0 := by have := (hq p (by simp)).1; omega
    unfold runs
    rw [if_neg h0, runs_num l p 1 _ (hq p (by simp)) (fun q h => hq q (by simp [h])) hs'.1 hs'.2, Nat.pow_one, ← List.prod_cons, hp]
    simp
end Go.Pr
