/-
  Plain facts: the divisors of a number in two passes: up to the root, and what is left by these, downwards.
-/
import Derived.Test.YtgjlldapnodfbaaDoorPNum
namespace Go.Pr

theorem head_of {x : Nat} : ∀ {l : List Nat}, l.Pairwise (· < ·) → x ∈ l → (∀ y ∈ l, x ≤ y) → ∃ r, l = x :: r ∧ ∀ y ∈ r, x < y
  | [], _, h, _ => by cases h
  | y :: r, hs, h, hm => by
    rw [List.pairwise_cons] at hs
    rcases List.mem_cons.1 h with rfl | h
    · exact ⟨r, rfl, hs.1⟩
    · have := hs.1 x h
      have := hm y (by simp)
      omega
/-- pre: the divisors below d; rest: the others. -/
def Lo (n d : Nat) (pre rest : List Nat) : Prop := pre ++ rest = divs n ∧ (∀ x ∈ pre, x < d) ∧ ∀ x ∈ rest, d ≤ x
/-- rest: the divisors from e on whose other part is at most d. -/
def Hi (n e d : Nat) (pre rest : List Nat) : Prop := pre ++ rest = divs n ∧ (∀ x ∈ pre, x < e ∨ d < n / x) ∧ ∀ x ∈ rest, e ≤ x ∧ n / x ≤ d
theorem rest_sorted {n : Nat} {pre rest : List Nat} (h : pre ++ rest = divs n) : rest.Pairwise (· < ·) := by
  have := divs_sorted n
  rw [← h, List.pairwise_append] at this
  exact this.2.1
theorem rest_dvd {n : Nat} (hn : 0 < n) {pre rest : List Nat} (h : pre ++ rest = divs n) {x : Nat} (hx : x ∈ rest) : x ∣ n := by
  rw [← mem_divs hn, ← h]
  exact List.mem_append_right _ hx
theorem Lo.start (n : Nat) (hn : 0 < n) : Lo n 1 [] (divs n) :=
  ⟨rfl, fun x h => (by cases h), fun x h => Nat.pos_of_dvd_of_pos ((mem_divs hn).1 h) hn⟩
theorem Lo.take {n d : Nat} {pre rest : List Nat} (hn : 0 < n) (h : Lo n d pre rest) (hd : n % d = 0) : ∃ rest', rest = d :: rest' ∧ Lo n (d + 1) (pre ++ [d]) rest' := by
  obtain ⟨h1, h2, h3⟩ := h
  have hm : d ∈ pre ++ rest := by rw [h1, mem_divs hn]; exact Nat.dvd_of_mod_eq_zero hd
  have hm' : d ∈ rest := (List.mem_append.1 hm).elim (fun h => absurd (h2 d h) (by omega)) id
  obtain ⟨r, rfl, hr⟩ := head_of (rest_sorted h1) hm' h3
  refine ⟨r, rfl, by simpa using h1, fun x hx => ?_, fun x hx => hr x hx⟩
  rcases List.mem_append.1 hx with hx | hx
  · have := h2 x hx; omega
  · simp at hx; omega
theorem Lo.skip {n d : Nat} {pre rest : List Nat} (hn : 0 < n) (h : Lo n d pre rest) (hd : n % d ≠ 0) : Lo n (d + 1) pre rest := by
  obtain ⟨h1, h2, h3⟩ := h
  refine ⟨h1, fun x hx => by have := h2 x hx; omega, fun x hx => ?_⟩
  have := h3 x hx
  rcases Nat.lt_or_ge d x with h | h
  · exact h
  · obtain rfl : x = d := by omega
    exact absurd (Nat.mod_eq_zero_of_dvd (rest_dvd hn h1 hx)) hd
theorem Lo.hi {n d e : Nat} {pre rest : List Nat} (h : Lo n e pre rest) (hle : ∀ x, e ≤ x → n / x ≤ d) : Hi n e d pre rest :=
  ⟨h.1, fun x hx => Or.inl (h.2.1 x hx), fun x hx => ⟨h.2.2 x hx, hle x (h.2.2 x hx)⟩⟩
theorem co_dvd {n d : Nat} (hn : 0 < n) (hd : n % d = 0) : n / d ∣ n ∧ n / (n / d) = d ∧ 0 < n / d ∧ d * (n / d) = n := by
  have h := Nat.dvd_of_mod_eq_zero hd
  have h4 : d * (n / d) = n := Nat.mul_div_cancel' h
  have h0 : 0 < d := Nat.pos_of_dvd_of_pos h hn
  have h3 : 0 < n / d := Nat.div_pos (Nat.le_of_dvd hn h) h0
  exact ⟨Nat.div_dvd_of_dvd h, Nat.div_eq_of_eq_mul_left h3 h4.symm, h3, h4⟩
theorem Hi.take {n e d : Nat} {pre rest : List Nat} (hn : 0 < n) (h : Hi n e d pre rest) (hd : n % d = 0) (he : e ≤ n / d) : ∃ rest', rest = n / d :: rest' ∧ Hi n e (d - 1) (pre ++ [n / d]) rest' := by
  obtain ⟨h1, h2, h3⟩ := h
  obtain ⟨c1, c2, c3, c4⟩ := co_dvd hn hd
  have h0 : 0 < d := Nat.pos_of_dvd_of_pos (Nat.dvd_of_mod_eq_zero hd) hn
  have hm : n / d ∈ pre ++ rest := by rw [h1, mem_divs hn]; exact c1
  have hm' : n / d ∈ rest := (List.mem_append.1 hm).elim (fun h => absurd (h2 _ h) (by rw [c2]; omega)) id
  have hco : ∀ y ∈ rest, 0 < y ∧ n / y * y = n := fun y hy => ⟨Nat.pos_of_dvd_of_pos (rest_dvd hn h1 hy) hn, Nat.div_mul_cancel (rest_dvd hn h1 hy)⟩
  obtain ⟨r, rfl, hr⟩ := head_of (rest_sorted h1) hm' (fun y hy => by
    refine Nat.le_of_not_lt fun hlt => ?_
    have h4 := (h3 y hy).2
    have h5 := (hco y hy).2
    have h6 : n / y * y ≤ d * y := Nat.mul_le_mul_right _ h4
    have h7 : d * y < d * (n / d) := Nat.mul_lt_mul_of_pos_left hlt h0
    omega)
  refine ⟨r, rfl, by simpa using h1, fun x hx => ?_, fun x hx => ⟨(h3 x (by simp [hx])).1, ?_⟩⟩
  · rcases List.mem_append.1 hx with hx | hx
    · rcases h2 x hx with h | h
      · exact Or.inl h
      · exact Or.inr (by omega)
    · simp at hx
      exact Or.inr (by rw [hx, c2]; omega)
  · have h4 := (h3 x (by simp [hx])).2
    rcases Nat.lt_or_ge (n / x) d with h | h
    · omega
    · obtain h5 : n / x = d := by omega
      have h6 := hr x hx
      have h7 := (hco x (by simp [hx])).2
      rw [h5] at h7
      have := Nat.mul_lt_mul_of_pos_left h6 h0
      omega
theorem Hi.down {n e d d' : Nat} {pre rest : List Nat} (hn : 0 < n) (h : Hi n e d pre rest) (hd : d' ≤ d) (hno : ∀ c, d' < c → c ≤ d → n % c = 0 → e ≤ n / c → False) : Hi n e d' pre rest := by
  obtain ⟨h1, h2, h3⟩ := h
  refine ⟨h1, fun x hx => (h2 x hx).imp id fun h => by omega, fun x hx => ⟨(h3 x hx).1, Nat.le_of_not_lt fun hlt => ?_⟩⟩
  have hx' := rest_dvd hn h1 hx
  obtain ⟨c1, c2, c3, c4⟩ := co_dvd hn (Nat.mod_eq_zero_of_dvd hx')
  exact hno _ hlt (h3 x hx).2 (Nat.mod_eq_zero_of_dvd c1) (by rw [c2]; exact (h3 x hx).1)
theorem Hi.skip {n e d : Nat} {pre rest : List Nat} (hn : 0 < n) (h : Hi n e d pre rest) (hno : n % d = 0 → e ≤ n / d → False) : Hi n e (d - 1) pre rest :=
  h.down hn (by omega) fun c h1 h2 h3 h4 => by
    obtain rfl : c = d := by omega
    exact hno h3 h4
theorem Hi.done {n e : Nat} {pre rest : List Nat} (hn : 0 < n) (h : Hi n e 0 pre rest) : rest = [] ∧ pre = divs n := by
  have : rest = [] := by
    cases rest with
    | nil => rfl
    | cons x r =>
      have h1 := (h.2.2 x (by simp)).2
      have h2 := rest_dvd hn h.1 (x := x) (by simp)
      have := Nat.div_pos (Nat.le_of_dvd hn h2) (Nat.pos_of_dvd_of_pos h2 hn)
      omega
  subst this
  exact ⟨rfl, by have := h.1; simpa using this⟩
/-- The program's test. -/
theorem up_iff {n e d : Nat} (hn : 0 < n) (he : 0 < e) (h1 : (e - 1) * (e - 1) < n) (hde : d ≤ e) (hd : n % d = 0) : e ≤ n / d ↔ d ≤ n / d := by
  refine ⟨fun h => by omega, fun h => ?_⟩
  obtain ⟨_, _, _, c4⟩ := co_dvd hn hd
  rcases Nat.lt_or_ge (n / d) e with hlt | hge
  · have h5 : d * (n / d) ≤ (e - 1) * (e - 1) := Nat.mul_le_mul (by omega) (by omega)
    omega
  · exact hge
/-- The reference's. -/
theorem up_iff2 {n e d : Nat} (hn : 0 < n) (he : 0 < e) (h1 : (e - 1) * (e - 1) ≤ n) (hde : d < e) (hd : n % d = 0) : e ≤ n / d ↔ d * d ≠ n := by
  obtain ⟨_, _, _, c4⟩ := co_dvd hn hd
  have h0 : 0 < d := Nat.pos_of_dvd_of_pos (Nat.dvd_of_mod_eq_zero hd) hn
  constructor
  · intro h h2
    have : n / d = d := Nat.div_eq_of_eq_mul_left h0 h2.symm
    omega
  · intro h
    rcases Nat.lt_or_ge (n / d) e with hlt | hge
    · exfalso
      have h5 : d * (n / d) ≤ (e - 1) * (n / d) := Nat.mul_le_mul_right _ (by omega)
      have h6 : (e - 1) * (n / d) ≤ (e - 1) * (e - 1) := Nat.mul_le_mul_left _ (by omega)
      have h7 : (e - 1) * (n / d) = (e - 1) * (e - 1) := by omega
      have h8 : d * (n / d) = (e - 1) * (n / d) := by omega
      have h9 : 0 < n / d := Nat.pos_of_ne_zero fun h => by rw [h] at c4; omega
      have h10 : d = e - 1 := Nat.eq_of_mul_eq_mul_right h9 h8
      have h11 : n / d = e - 1 := Nat.eq_of_mul_eq_mul_left (by omega) h7
      rw [h11, ← h10] at c4
      exact h c4
    · exact hge
theorem divs_le {n d : Nat} (hn : 0 < n) (h : d ∈ divs n) : 1 ≤ d ∧ d ≤ n :=
  ⟨Nat.pos_of_dvd_of_pos ((mem_divs hn).1 h) hn, Nat.le_of_dvd hn ((mem_divs hn).1 h)⟩
/-- What Divisors tells. -/
def divsI (n : Int) : List Nat := if 4294967296 < n then [] else divs n.toNat
theorem divsI_out {n : Int} (h : n < 1 ∨ 4294967296 < n) : divsI n = [] := by
  unfold divsI
  split
  · rfl
  · have : n.toNat = 0 := by omega
    rw [this]; rfl
theorem divsI_in {n : Nat} (h : n ≤ 4294967296) : divsI n = divs n := by
  unfold divsI
  rw [if_neg (by omega)]; rfl
theorem divsI_le (n : Int) : (divsI n).length ≤ 5000 := by
  by_cases h : n < 1 ∨ 4294967296 < n
  · rw [divsI_out h]; simp
  · obtain ⟨k, rfl⟩ := Int.eq_ofNat_of_zero_le (show 0 ≤ n by omega)
    rw [divsI_in (by omega)]
    exact num_le (by omega) (by omega)
end Go.Pr
