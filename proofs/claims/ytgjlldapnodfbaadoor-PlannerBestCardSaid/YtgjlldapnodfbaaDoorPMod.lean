/-
  Plain number theory for the package primes: products and powers modulo m, Euclid's way to an inverse, Fermat's theorem, roots of x^d - 1, a primitive root.
-/
import Derived.Test.YtgjlldapnodfbaaDoorPNum
namespace Go.Pr

theorem mod_pow_succ (a e m : Nat) : a ^ (e + 1) % m = (a ^ e % m) * a % m := by
  rw [Nat.pow_succ, Nat.mod_mul_mod]

/-! ### Euclid's way -/
/-- a - b modulo m, both below m. -/
def less (a b m : Nat) : Nat := if b ≤ a then a - b else m - (b - a)
theorem less_lt {a b m : Nat} (ha : a < m) : less a b m < m := by unfold less; split <;> omega
theorem less_mod {a b m : Nat} (hb : b ≤ m) : (less a b m + b) % m = a % m := by
  unfold less
  split
  · rw [Nat.sub_add_cancel ‹_›]
  · rw [show m - (b - a) + b = a + m by omega, Nat.add_mod_right]
def invF (m : Nat) : Nat → Nat → Nat → Nat → Nat → Nat × Nat
  | 0, r, _, x, _ => (r, x)
  | k + 1, r, s, x, y => if s = 0 then (r, x) else invF m k s (r % s) y (less x (r / s * y % m) m)
theorem invF_stop (m k r x y : Nat) : invF m k r 0 x y = (r, x) := by cases k <;> rfl
theorem invF_step (m k r s x y : Nat) (hs : s ≠ 0) : invF m (k + 1) r s x y = invF m k s (r % s) y (less x (r / s * y % m) m) := by
  rw [invF, if_neg hs]
theorem invF_gcd (m : Nat) : ∀ k r s x y, s ≤ k → (invF m k r s x y).1 = Nat.gcd r s
  | 0, r, s, x, y, h => by obtain rfl : s = 0 := by omega
                           simp [invF]
  | k + 1, r, s, x, y, h => by
    unfold invF
    split
    · rename_i e; subst e; simp
    · rename_i e
      have := Nat.mod_lt r (show 0 < s by omega)
      rw [invF_gcd m k _ _ _ _ (by omega), Nat.gcd_comm, ← Nat.gcd_rec, Nat.gcd_comm]
theorem invF_more (m : Nat) : ∀ k j r s x y, s ≤ k → s ≤ j → invF m k r s x y = invF m j r s x y
  | 0, j, r, s, x, y, h, _ => by
    obtain rfl : s = 0 := by omega
    rw [invF_stop, invF_stop]
  | k + 1, 0, r, s, x, y, _, h => by
    obtain rfl : s = 0 := by omega
    rw [invF_stop, invF_stop]
  | k + 1, j + 1, r, s, x, y, hk, hj => by
    unfold invF
    split
    · rfl
    · rename_i e
      have := Nat.mod_lt r (show 0 < s by omega)
      exact invF_more m k j _ _ _ _ (by omega) (by omega)
/-- What the coefficients are: x a is r, y a is s. -/
theorem invF_inv {m a : Nat} (hm : 0 < m) : ∀ k r s x y, s ≤ k → x < m → y < m → x * a % m = r % m → y * a % m = s % m →
    (invF m k r s x y).2 < m ∧ (invF m k r s x y).2 * a % m = (invF m k r s x y).1 % m
  | 0, r, s, x, y, h, hx, hy, h1, h2 => ⟨hx, h1⟩
  | k + 1, r, s, x, y, h, hx, hy, h1, h2 => by
    unfold invF
    split
    · exact ⟨hx, h1⟩
    · rename_i e
      have hq := Nat.mod_lt (r / s * y) hm
      have hlt := Nat.mod_lt r (show 0 < s by omega)
      refine invF_inv hm k _ _ _ _ (by omega) hy (less_lt hx) h2 ?_
      have e1 := less_mod (a := x) (Nat.le_of_lt hq)
      have e2 : (less x (r / s * y % m) m * a + r / s * s) % m = (r % s + r / s * s) % m := by
        have h3 : r % s + r / s * s = r := by have := Nat.mod_add_div r s; rw [Nat.mul_comm s] at this; omega
        rw [h3, ← h1]
        have h4 : (less x (r / s * y % m) m * a + r / s * y % m * a) % m = x * a % m := by
          rw [← Nat.add_mul, Nat.mul_mod, e1, Nat.mod_eq_of_lt hx, Nat.mul_mod x a, Nat.mod_eq_of_lt hx]
        rw [← h4, Nat.add_mod, Nat.add_mod (less x (r / s * y % m) m * a)]
        congr 2
        rw [Nat.mul_mod (r / s * y % m), Nat.mod_mod, ← Nat.mul_mod, Nat.mul_assoc, Nat.mul_mod (r / s), Nat.mul_mod (r / s) (y * a), h2]
      generalize r / s * s = c at *
      generalize less x (r / s * y % m) m * a = z at *
      generalize r % s = t at *
      have key : (z + c + (m - c % m)) % m = (t + c + (m - c % m)) % m := by rw [Nat.add_mod, e2, ← Nat.add_mod]
      have hc := Nat.mod_add_div c m
      have hcl := Nat.mod_lt c hm
      have e4 : ∀ u, (u + c + (m - c % m)) % m = u % m := fun u => by
        rw [show u + c + (m - c % m) = u + m * (c / m + 1) by rw [Nat.mul_add]; omega, Nat.add_mul_mod_self_left]
      rwa [e4, e4] at key
/-- The number that a times it leaves 1 modulo m, and Euclid's rest. -/
def inv (a m : Nat) : Nat × Nat := invF m (a % m) m (a % m) 0 (1 % m)
theorem inv_gcd (a m : Nat) : (inv a m).1 = Nat.gcd m (a % m) := invF_gcd _ _ _ _ _ _ (Nat.le_refl _)
theorem gcd_mod (a m : Nat) : Nat.gcd m (a % m) = Nat.gcd m a := by
  rw [Nat.gcd_comm, ← Nat.gcd_rec]
theorem inv_mul {a m : Nat} (hm : 0 < m) (h : Nat.gcd m (a % m) = 1) : (inv a m).2 < m ∧ a * (inv a m).2 % m = 1 % m := by
  have h1 := invF_inv (a := a) hm (a % m) m (a % m) 0 (1 % m) (Nat.le_refl _) hm (Nat.mod_lt _ hm) (by simp) (by rw [Nat.mul_mod, Nat.mod_mod, ← Nat.mul_mod, Nat.one_mul, Nat.mod_mod])
  have h2 : (inv a m).1 = 1 := by rw [inv_gcd, h]
  refine ⟨h1.1, ?_⟩
  rw [Nat.mul_comm]
  exact h1.2.trans (by show (inv a m).1 % m = _; rw [h2])
theorem exists_inv {a m : Nat} (hm : 0 < m) (h : Nat.Coprime m a) : ∃ b, b < m ∧ a * b % m = 1 % m :=
  ⟨_, inv_mul hm (by rw [gcd_mod]; exact h)⟩
/-- What is coprime to m may be let go. -/
theorem cancel {m a x y : Nat} (hm : 0 < m) (h : Nat.Coprime m a) (e : a * x % m = a * y % m) : x % m = y % m := by
  obtain ⟨b, _, hb⟩ := exists_inv hm h
  have h1 : ∀ z, b * (a * z) % m = z % m := fun z => by
    rw [← Nat.mul_assoc, Nat.mul_mod, Nat.mul_comm b a, hb, ← Nat.mul_mod, Nat.one_mul]
  rw [← h1 x, ← h1 y, Nat.mul_mod, e, ← Nat.mul_mod]

/-! ### Fermat -/
theorem prod_map_mod (a p : Nat) : ∀ l : List Nat, (l.map fun x => a * x % p).prod % p = a ^ l.length * l.prod % p
  | [] => by simp
  | x :: l => by
    rw [List.map_cons, List.prod_cons, Nat.mul_mod, prod_map_mod a p l, ← Nat.mul_mod, List.length_cons, Nat.pow_succ, List.prod_cons, Nat.mul_mod (a * x % p), Nat.mod_mod, ← Nat.mul_mod]
    congr 1
    rw [Nat.mul_comm (a ^ l.length) a, Nat.mul_assoc, Nat.mul_assoc, Nat.mul_left_comm x]
theorem coprime_prod {p : Nat} (hp : Pri p) : ∀ l : List Nat, (∀ x ∈ l, 0 < x ∧ x < p) → Nat.Coprime p l.prod
  | [], _ => by simp [Nat.Coprime]
  | x :: l, h => by
    rw [List.prod_cons]
    obtain ⟨h1, h2⟩ := h x (by simp)
    exact Nat.Coprime.mul_right (hp.coprime fun hd => by have := Nat.le_of_dvd h1 hd; omega) (coprime_prod hp l fun y hy => h y (by simp [hy]))
theorem fermat {p a : Nat} (hp : Pri p) (ha : ¬ p ∣ a) : a ^ (p - 1) % p = 1 := by
  have hpp := hp.pos
  have hc := hp.coprime ha
  have L := List.range' 1 (p - 1)
  have hmem : ∀ x, x ∈ List.range' 1 (p - 1) ↔ 0 < x ∧ x < p := fun x => by rw [List.mem_range'_1]; have := hp.1; omega
  have hperm : ((List.range' 1 (p - 1)).map fun x => a * x % p).Perm (List.range' 1 (p - 1)) := by
    rw [List.perm_ext_iff_of_nodup _ List.nodup_range']
    · intro x
      rw [List.mem_map, hmem]
      constructor
      · rintro ⟨y, hy, rfl⟩
        rw [hmem] at hy
        refine ⟨Nat.pos_of_ne_zero fun h => ?_, Nat.mod_lt _ hpp⟩
        rcases hp.dvd_mul (Nat.dvd_of_mod_eq_zero h) with h1 | h1
        · exact ha h1
        · have := Nat.le_of_dvd hy.1 h1; omega
      · rintro ⟨h1, h2⟩
        obtain ⟨b, _, hb⟩ := exists_inv hpp hc
        have e : a * (b * x % p) % p = x := by
          rw [Nat.mul_mod, Nat.mod_mod, ← Nat.mul_mod, ← Nat.mul_assoc, Nat.mul_mod, hb, ← Nat.mul_mod, Nat.one_mul, Nat.mod_eq_of_lt h2]
        refine ⟨b * x % p, (hmem _).2 ⟨Nat.pos_of_ne_zero fun h => ?_, Nat.mod_lt _ hpp⟩, e⟩
        rw [h] at e; simp at e; omega
    · refine List.Pairwise.map _ ?_ (List.Pairwise.and_mem.1 (List.nodup_range' (s := 1) (n := p - 1)))
      intro x y ⟨hx, hy, hne⟩ h
      rw [hmem] at hx hy
      have := cancel hpp hc h
      rw [Nat.mod_eq_of_lt hx.2, Nat.mod_eq_of_lt hy.2] at this
      exact hne this
  have h1 := hperm.prod_nat
  have h2 := prod_map_mod a p (List.range' 1 (p - 1))
  rw [h1, List.length_range'] at h2
  have h3 := coprime_prod hp (List.range' 1 (p - 1)) fun x hx => (hmem x).1 hx
  have h4 := cancel (x := a ^ (p - 1)) (y := 1) hpp h3 (by rw [Nat.mul_one, Nat.mul_comm]; exact h2.symm)
  rw [h4, Nat.mod_eq_of_lt hp.1]

/-! ### Roots of a polynomial modulo a prime: at most as many as its degree -/
def ev (x : Int) : List Int → Int → Int
  | [], acc => acc
  | c :: l, acc => ev x l (acc * x + c)
/-- Division by (X - r): the quotient's numbers. -/
def quo (r : Int) : List Int → Int → List Int
  | [], _ => []
  | [_], _ => []
  | c :: d :: l, acc => (acc * r + c) :: quo r (d :: l) (acc * r + c)
theorem ev_lin (x : Int) : ∀ (l : List Int) (a b : Int), ev x l (a + b) = ev x l a + b * x ^ l.length
  | [], a, b => by simp [ev]
  | c :: l, a, b => by
    unfold ev
    rw [show (a + b) * x + c = (a * x + c) + b * x by grind, ev_lin x l, List.length_cons]
    grind
theorem ev_quo (x r : Int) : ∀ (l : List Int) (acc : Int), l ≠ [] → ev x l acc - ev r l acc = (x - r) * ev x (quo r l acc) acc
  | [], _, h => absurd rfl h
  | [c], acc, _ => by simp [ev, quo]; grind
  | c :: d :: l, acc, _ => by
    have ih := ev_quo x r (d :: l) (acc * r + c) (by simp)
    rw [show ev x (c :: d :: l) acc = ev x (d :: l) (acc * x + c) from rfl, show ev r (c :: d :: l) acc = ev r (d :: l) (acc * r + c) from rfl,
      show quo r (c :: d :: l) acc = (acc * r + c) :: quo r (d :: l) (acc * r + c) from rfl]
    have h1 := ev_lin x (d :: l) (acc * r + c) (acc * x - acc * r)
    rw [show acc * r + c + (acc * x - acc * r) = acc * x + c by grind] at h1
    have hlen : ∀ (l : List Int) (a : Int), (quo r l a).length = l.length - 1 := by
      intro l
      induction l with
      | nil => intro a; rfl
      | cons e l ih => intro a; cases l with
        | nil => rfl
        | cons f l => simp only [quo, List.length_cons]; rw [ih]; simp
    have h2 : ev x ((acc * r + c) :: quo r (d :: l) (acc * r + c)) acc = ev x (quo r (d :: l) (acc * r + c)) (acc * r + c) + acc * x * x ^ l.length := by
      show ev x (quo r (d :: l) (acc * r + c)) (acc * x + (acc * r + c)) = _
      rw [show acc * x + (acc * r + c) = (acc * r + c) + acc * x by grind, ev_lin, hlen]
      simp
    rw [h1, h2]
    have h3 : x ^ (d :: l).length = x ^ l.length * x := by rw [List.length_cons, Int.pow_succ]
    rw [h3]
    grind
theorem quo_length (r : Int) : ∀ (l : List Int) (a : Int), (quo r l a).length = l.length - 1
  | [], _ => rfl
  | [_], _ => rfl
  | c :: d :: l, a => by simp only [quo, List.length_cons]; rw [quo_length r (d :: l)]; simp
/-- Lagrange: a polynomial whose leading number p doesn't divide has at most its degree of roots. -/
theorem lagrange {p : Nat} (hp : Pri p) : ∀ (n : Nat) (l : List Int) (c : Int), l.length = n → ¬ (p : Int) ∣ c →
    ∀ R : List Nat, R.Nodup → (∀ x ∈ R, x < p ∧ (p : Int) ∣ ev x l c) → R.length ≤ n
  | 0, l, c, hl, hc, R, hR, h => by
    obtain rfl := List.length_eq_zero_iff.1 hl
    cases R with
    | nil => simp
    | cons x R => exact absurd (h x (by simp)).2 hc
  | n + 1, l, c, hl, hc, R, hR, h => by
    cases R with
    | nil => simp
    | cons r R =>
      obtain ⟨hr, hR'⟩ := List.nodup_cons.1 hR
      have h0 := h r (by simp)
      have ih := lagrange hp n (quo r l c) c (by rw [quo_length, hl]; rfl) hc R hR' fun x hx => by
        obtain ⟨hx1, hx2⟩ := h x (by simp [hx])
        refine ⟨hx1, ?_⟩
        have e := ev_quo x r l c (by intro e; rw [e] at hl; cases hl)
        have hd : (p : Int) ∣ ((x : Int) - r) * ev x (quo r l c) c := by rw [← e]; exact Int.dvd_sub hx2 h0.2
        have hd' := Int.natAbs_dvd_natAbs.2 hd
        rw [Int.natAbs_mul, Int.natAbs_natCast] at hd'
        rcases hp.dvd_mul hd' with h1 | h1
        · exfalso
          have hne : x ≠ r := fun e => hr (e ▸ hx)
          have : 0 < ((x : Int) - r).natAbs := by omega
          have := Nat.le_of_dvd this h1
          have := h0.1
          omega
        · exact Int.natAbs_dvd_natAbs.1 (by rw [Int.natAbs_natCast]; exact h1)
      simp; omega
theorem ev_zeros (x : Int) : ∀ (k : Nat) (a : Int), ev x (List.replicate k 0) a = a * x ^ k
  | 0, a => by simp [ev]
  | k + 1, a => by rw [List.replicate_succ]; unfold ev; rw [ev_zeros x k]; grind
theorem ev_append (x : Int) : ∀ (l m : List Int) (a : Int), ev x (l ++ m) a = ev x m (ev x l a)
  | [], _, _ => rfl
  | c :: l, m, a => by show ev x (l ++ m) _ = _; rw [ev_append x l m]; rfl
/-- x^d is 1 at d numbers at most. -/
theorem few_roots {p d : Nat} (hp : Pri p) (hd : 0 < d) (R : List Nat) (hR : R.Nodup) (h : ∀ x ∈ R, x < p ∧ x ^ d % p = 1) : R.length ≤ d := by
  obtain ⟨k, rfl⟩ : ∃ k, d = k + 1 := ⟨d - 1, by omega⟩
  refine lagrange hp (k + 1) (List.replicate k 0 ++ [-1]) 1 (by simp) (fun hd => ?_) R hR fun x hx => ?_
  · have := Int.le_of_dvd (by omega) hd; have := hp.1; omega
  · obtain ⟨h1, h2⟩ := h x hx
    refine ⟨h1, ?_⟩
    rw [ev_append, ev_zeros]
    show (p : Int) ∣ 1 * (x : Int) ^ k * (x : Int) + -1
    rw [Int.one_mul, ← Int.pow_succ]
    have h3 : (x ^ (k + 1)) % p = 1 := h2
    have h4 := Nat.mod_add_div (x ^ (k + 1)) p
    rw [h3] at h4
    refine ⟨((x ^ (k + 1) / p : Nat) : Int), ?_⟩
    have h5 : ((x ^ (k + 1) : Nat) : Int) = 1 + p * (x ^ (k + 1) / p : Nat) := by norm_cast; exact h4.symm
    rw [Int.natCast_pow] at h5
    rw [show (x : Int) ^ k.succ = (x : Int) ^ (k + 1) from rfl, h5]
    omega
theorem some_not {p d : Nat} (hp : Pri p) (hd : 0 < d) (hlt : d < p - 1) : ∃ x, 0 < x ∧ x < p ∧ x ^ d % p ≠ 1 := by
  refine Classical.byContradiction fun hno => ?_
  have hall : ∀ x, 0 < x → x < p → x ^ d % p = 1 := fun x h1 h2 => Classical.byContradiction fun h3 => hno ⟨x, h1, h2, h3⟩
  have := few_roots hp hd (List.range' 1 (p - 1)) List.nodup_range' fun x hx => by
    rw [List.mem_range'_1] at hx
    have := hp.1
    exact ⟨by omega, hall x (by omega) (by omega)⟩
  rw [List.length_range'] at this
  omega

/-! ### A primitive root -/
theorem pow_mod_one {a p k : Nat} (hp : 1 < p) (h : a ^ k % p = 1) (j : Nat) : a ^ (k * j) % p = 1 := by
  rw [Nat.pow_mul, Nat.pow_mod, h, Nat.one_pow, Nat.mod_eq_of_lt hp]
/-- Powers that are 1 at two coprime exponents are 1. -/
theorem pow_gcd_one {a p i j : Nat} (hp : Pri p) (hi : a ^ i % p = 1) (hj : a ^ j % p = 1) : a ^ Nat.gcd i j % p = 1 := by
  induction i, j using Nat.gcd.induction with
  | H0 n => rw [Nat.gcd_zero_left]; exact hj
  | H1 m n hm ih =>
    rw [Nat.gcd_rec]
    refine ih ?_ hi
    have h1 : a ^ n % p = a ^ (m * (n / m) + n % m) % p := by rw [Nat.div_add_mod]
    rw [hj, Nat.pow_add, Nat.mul_mod, pow_mod_one hp.1 hi, Nat.one_mul, Nat.mod_mod] at h1
    exact h1.symm
theorem dvd_div_of {a b n : Nat} (hb : 0 < b) (h : a * b ∣ n) : a ∣ n / b := by
  obtain ⟨c, rfl⟩ := h
  rw [show a * b * c = a * c * b by rw [Nat.mul_right_comm], Nat.mul_div_cancel _ hb]
  exact Nat.dvd_mul_right _ _
theorem not_dvd_pos {p x : Nat} (h1 : 0 < x) (h2 : x < p) : ¬ p ∣ x := fun h => by have := Nat.le_of_dvd h1 h; omega
/-- For a prime q of p - 1: a number whose power by (p - 1) / q isn't 1, but those by (p - 1) / r are, for the other primes r. -/
theorem part {p q : Nat} (hp : Pri p) (hq : Pri q) (hd : q ∣ p - 1) : ∃ y, ¬ p ∣ y ∧ y ^ ((p - 1) / q) % p ≠ 1 ∧ ∀ r, Pri r → r ∣ p - 1 → r ≠ q → y ^ ((p - 1) / r) % p = 1 := by
  have hp2 := hp.1
  have h0 : 0 < p - 1 := by omega
  obtain ⟨e, m, he, hm, hm0⟩ := split_pow hq (p - 1) h0
  have hqd : 0 < (p - 1) / q := Nat.div_pos (Nat.le_of_dvd h0 hd) hq.pos
  have hql : (p - 1) / q < p - 1 := Nat.div_lt_self h0 hq.1
  obtain ⟨x, hx0, hxp, hx⟩ := some_not hp hqd hql
  have hxn := not_dvd_pos hx0 hxp
  have hyn : ¬ p ∣ x ^ m := fun h => hxn (hp.dvd_pow m h)
  have hy1 : (x ^ m) ^ (q ^ e) % p = 1 := by rw [← Nat.pow_mul, Nat.mul_comm, ← he]; exact fermat hp hxn
  obtain ⟨e', rfl⟩ : ∃ e', e = e' + 1 := by
    rcases e with _ | e
    · rw [Nat.pow_zero, Nat.one_mul] at he; exact absurd (he ▸ hd) hm
    · exact ⟨e, rfl⟩
  have hdiv : (p - 1) / q = q ^ e' * m := by
    rw [he, Nat.pow_succ, Nat.mul_right_comm, Nat.mul_div_cancel _ hq.pos]
  refine ⟨x ^ m, hyn, fun h => hx ?_, fun r hr hrd hne => ?_⟩
  · -- the power by q^e' is then 1: its exponents m and q are coprime
    rw [hdiv] at h ⊢
    have h1 : ((x ^ m) ^ q ^ e') ^ m % p = 1 := by rw [← Nat.pow_mul]; exact h
    have h2 : ((x ^ m) ^ q ^ e') ^ q % p = 1 := by rw [← Nat.pow_mul, ← Nat.pow_succ]; exact hy1
    have h3 := pow_gcd_one hp h1 h2
    have h4 : Nat.gcd m q = 1 := (hq.coprime hm).symm
    rw [h4, Nat.pow_one, ← Nat.pow_mul, Nat.mul_comm] at h3
    exact h3
  · have hc : Nat.Coprime r (q ^ (e' + 1)) := Nat.Coprime.pow_right _ (hr.coprime fun h => by
      rcases Nat.lt_or_ge r q with h5 | h5
      · exact hq.2 r hr.1 h5 h
      · have := Nat.le_of_dvd hq.pos h; omega)
    have hdd : q ^ (e' + 1) ∣ (p - 1) / r := by
      refine dvd_div_of hr.pos ?_
      exact Nat.Coprime.mul_dvd_of_dvd_of_dvd hc.symm (he ▸ Nat.dvd_mul_right _ _) hrd
    obtain ⟨j, hj⟩ := hdd
    rw [hj]
    exact pow_mod_one hp.1 hy1 j
theorem prim_list {p : Nat} (hp : Pri p) : ∀ l : List Nat, (∀ q ∈ l, Pri q ∧ q ∣ p - 1) →
    ∃ g, ¬ p ∣ g ∧ (∀ q ∈ l, g ^ ((p - 1) / q) % p ≠ 1) ∧ ∀ r, Pri r → r ∣ p - 1 → r ∉ l → g ^ ((p - 1) / r) % p = 1
  | [], _ => ⟨1, fun h => by have := Nat.le_of_dvd (by omega) h; have := hp.1; omega, by simp, fun r _ _ _ => by rw [Nat.one_pow, Nat.mod_eq_of_lt hp.1]⟩
  | q :: l, h => by
    obtain ⟨g, hg, h1, h2⟩ := prim_list hp l fun r hr => h r (by simp [hr])
    by_cases hin : q ∈ l
    · refine ⟨g, hg, fun r hr => ?_, fun r hr hd hn => h2 r hr hd fun hh => hn (by simp [hh])⟩
      rcases List.mem_cons.1 hr with rfl | hr
      · exact h1 _ hin
      · exact h1 _ hr
    · obtain ⟨hq, hqd⟩ := h q (by simp)
      obtain ⟨y, hy, h3, h4⟩ := part hp hq hqd
      have hg1 := h2 q hq hqd hin
      refine ⟨g * y, fun hh => (hp.dvd_mul hh).elim hg hy, fun r hr => ?_, fun r hr hd hn => ?_⟩
      · rw [Nat.mul_pow, Nat.mul_mod]
        by_cases hrq : r = q
        · subst hrq
          rw [hg1, Nat.one_mul, Nat.mod_mod]; exact h3
        · have hr' : r ∈ l := by
            rcases List.mem_cons.1 hr with h5 | h5
            · exact absurd h5 hrq
            · exact h5
          rw [h4 r (h r hr).1 (h r hr).2 hrq, Nat.mul_one, Nat.mod_mod]
          exact h1 r hr'
      · have h5 : r ≠ q := fun e => hn (by simp [e])
        rw [Nat.mul_pow, Nat.mul_mod, h2 r hr hd (fun hh => hn (by simp [hh])), h4 r hr hd h5, Nat.mod_eq_of_lt hp.1]
/-- Is g a primitive root of p, told by the prime factors of p - 1? -/
def prim (p g : Nat) : Bool := (facts (p - 1)).all fun q => g ^ ((p - 1) / q) % p != 1
theorem prim_mod (p g : Nat) : prim p (g % p) = prim p g := by
  unfold prim
  congr 1
  funext q
  rw [← Nat.pow_mod]
theorem exists_prim {p : Nat} (hp : Pri p) : ∃ g, 0 < g ∧ g < p ∧ prim p g = true := by
  obtain ⟨g, hg, h1, _⟩ := prim_list hp (facts (p - 1)) fun q hq => facts_mem hq
  refine ⟨g % p, Nat.pos_of_ne_zero fun h => hg (Nat.dvd_of_mod_eq_zero h), Nat.mod_lt _ hp.pos, ?_⟩
  rw [prim_mod]
  unfold prim
  rw [List.all_eq_true]
  intro q hq
  simpa using h1 q hq
end Go.Pr
