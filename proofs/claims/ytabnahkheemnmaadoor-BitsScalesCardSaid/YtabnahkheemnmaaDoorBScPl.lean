/-
  Plain laws for BitsScales: scaling there and back.
-/
import Derived.Test.YtabnahkheemnmaaDoorBOne
namespace Go.Proofs.YtabnahkheemnmaaDoor
open Go Go.RowKit Go.Fl

/-- The digits and the power of two of a rest that is made of them. -/
theorem form_normal {x M : Nat} (h1 : 4503599627370496 ≤ M) (h2 : M < 9007199254740992) (hx : x ≤ 2045) :
    0 < x * 4503599627370496 + M ∧ x * 4503599627370496 + M < 9218868437227405312 ∧ nM (x * 4503599627370496 + M) = M ∧ nE (x * 4503599627370496 + M) = (x : Int) := by
  refine ⟨by omega, by omega, ?_, ?_⟩
  · rw [nM_normal (by omega)]; omega
  · rw [nE_normal (by omega)]; omega
/-- A rest is what its digits and its power of two say. -/
theorem form_of {r : Nat} (h0 : 0 < r) (hr : r < 9218868437227405312) : scR r (nE r) = r := by
  have hb := nE_bound h0 hr
  unfold scR
  rw [if_neg (by omega)]
  rcases Nat.lt_or_ge r 4503599627370496 with h | h
  · obtain ⟨l1, l2, l3, l4⟩ := nl_small h0 h
    have hE := nE_small h0 h
    have hM := nM_small h0 h
    rw [if_neg (by omega), hM.1, show (-nE r).toNat = 52 - r.log2 by omega, rne_exact]
  · have hE := nE_normal h
    rw [if_pos (by omega), nM_normal h, hE]
    omega
theorem scR_congr {r r' : Nat} (x : Int) (h : nM r = nM r') : scR r x = scR r' x := by unfold scR; rw [h]
theorem scR_in {r : Nat} {x : Int} (h0 : 0 < r) (hx0 : 0 ≤ x) (hx : x ≤ 2045) : scR r x = x.toNat * 4503599627370496 + nM r := by
  unfold scR; rw [if_neg (by omega), if_pos hx0]
theorem scR_there {r : Nat} {x : Int} (h0 : 0 < r) (hx0 : 0 ≤ x) (hx : x ≤ 2045) :
    0 < scR r x ∧ scR r x < 9218868437227405312 ∧ nM (scR r x) = nM r ∧ nE (scR r x) = x := by
  have hM := nM_bound h0
  rw [scR_in h0 hx0 hx]
  have := form_normal (x := x.toNat) hM.1 hM.2 (by omega)
  refine ⟨this.1, this.2.1, this.2.2.1, ?_⟩
  rw [this.2.2.2]; omega
/-- Scaled to a power of two that is there, and from it. -/
theorem sc_word {a : Nat} {k : Int} (h : a < 18446744073709551616) (h0 : 0 < lo a) (hx0 : 0 ≤ nE (lo a) + clamp k) (hx : nE (lo a) + clamp k ≤ 2045) :
    ∃ b, b = sw a + scR (lo a) (nE (lo a) + clamp k) ∧ b < 18446744073709551616 ∧ sw b = sw a ∧ lo b = scR (lo a) (nE (lo a) + clamp k) ∧ 0 < lo b ∧ lo b < 9218868437227405312 ∧ nM (lo b) = nM (lo a) ∧ nE (lo b) = nE (lo a) + clamp k := by
  obtain ⟨t1, t2, t3, t4⟩ := scR_there h0 hx0 hx
  obtain ⟨s1, s2, s3⟩ := sw_add (a := a) (x := scR (lo a) (nE (lo a) + clamp k)) h (by omega)
  exact ⟨_, rfl, s3, s1, s2, by rw [s2]; exact t1, by rw [s2]; exact t2, by rw [s2]; exact t3, by rw [s2]; exact t4⟩
theorem sc_back {a b : Nat} {k : Int} (ha : a < 18446744073709551616) (h0 : 0 < lo a) (hf : lo a < 9218868437227405312) (hs : sw b = sw a) (hM : nM (lo b) = nM (lo a)) (hE : nE (lo b) + clamp k = nE (lo a)) :
    sw b + scR (lo b) (nE (lo b) + clamp k) = a := by
  rw [hE, hs, scR_congr _ hM, form_of h0 hf]
  exact (sw_lo a).symm
end Go.Proofs.YtabnahkheemnmaaDoor
