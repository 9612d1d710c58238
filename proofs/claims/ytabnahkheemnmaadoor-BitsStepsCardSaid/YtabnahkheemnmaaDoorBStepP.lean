/-
  Plain laws for BitsSteps: neighbours, distances.
-/
import Derived.Test.YtabnahkheemnmaaDoorBOrd
namespace Go.Proofs.YtabnahkheemnmaaDoor
open Go Go.RowKit Go.Fl Ieee

theorem upB_top {b : Nat} (h : pl b = 9218868437227405312) : upB b = b := by unfold upB; rw [if_pos (.inr h)]
theorem upB_at {b : Nat} (h : Num b) (h2 : pl b ≠ 9218868437227405312) : upB b = atw (pl b + 1) := by
  unfold upB
  rw [if_neg (by rw [h.2]; simpa using h2)]
theorem downB_low {b : Nat} (h : pl b = -9218868437227405313) : downB b = b := by unfold downB; rw [if_pos (.inr h)]
theorem downB_at {b : Nat} (h : Num b) (h2 : pl b ≠ -9218868437227405313) : downB b = atw (pl b - 1) := by
  unfold downB
  rw [if_neg (by rw [h.2]; simpa using h2)]
theorem Num.up {b : Nat} (h : Num b) : Num (upB b) := by
  have hb := h.pl_bound
  by_cases h2 : pl b = 9218868437227405312
  · rw [upB_top h2]; exact h
  · rw [upB_at h h2]; exact atw_num (by omega) (by omega)
theorem Num.down {b : Nat} (h : Num b) : Num (downB b) := by
  have hb := h.pl_bound
  by_cases h2 : pl b = -9218868437227405313
  · rw [downB_low h2]; exact h
  · rw [downB_at h h2]; exact atw_num (by omega) (by omega)
theorem pl_up {b : Nat} (h : Num b) (h2 : pl b ≠ 9218868437227405312) : pl (upB b) = pl b + 1 := by
  have hb := h.pl_bound
  rw [upB_at h h2]; exact pl_atw (by omega) (by omega)
theorem pl_down {b : Nat} (h : Num b) (h2 : pl b ≠ -9218868437227405313) : pl (downB b) = pl b - 1 := by
  have hb := h.pl_bound
  rw [downB_at h h2]; exact pl_atw (by omega) (by omega)
theorem down_up {b : Nat} (h : Num b) (h2 : pl b ≠ 9218868437227405312) : downB (upB b) = b := by
  have hb := h.pl_bound
  have e := pl_up h h2
  rw [downB_at h.up (by rw [e]; omega), e, show pl b + 1 - 1 = pl b by omega, atw_pl]
theorem up_down {b : Nat} (h : Num b) (h2 : pl b ≠ -9218868437227405313) : upB (downB b) = b := by
  have hb := h.pl_bound
  have e := pl_down h h2
  rw [upB_at h.down (by rw [e]; omega), e, show pl b - 1 + 1 = pl b by omega, atw_pl]
theorem cmp_lt {a b : Nat} (ha : Num a) (hb : Num b) (h : pl a < pl b) : cmpB a b = -1 := by
  unfold cmpB
  rw [ha.2, hb.2]
  simp [h]
theorem cmp_pos {a b : Nat} (ha : Num a) (hb : Num b) : decide (0 < cmpB a b) = decide (pl b < pl a) := by
  unfold cmpB
  rw [ha.2, hb.2]
  simp only [Bool.false_eq_true, if_false]
  by_cases h1 : pl a < pl b
  · rw [if_pos h1]
    rw [decide_eq_false (by omega), decide_eq_false (by omega)]
  · rw [if_neg h1]
    by_cases h2 : pl b < pl a
    · rw [if_pos h2, decide_eq_true (by omega), decide_eq_true h2]
    · rw [if_neg h2, decide_eq_false (by omega), decide_eq_false h2]
theorem cmp_le1 (a b : Nat) : cmpB a b ≤ 1 ∧ -1 ≤ cmpB a b := by
  unfold cmpB
  cases isN a <;> cases isN b <;> simp
  split
  · omega
  · split <;> omega
theorem apart_up {b : Nat} (h : Num b) (h2 : pl b ≠ 9218868437227405312) : apartB b (upB b) = 1 := by
  unfold apartB; rw [pl_up h h2]; omega
theorem apart_sum {f g h : Nat} (h1 : pl f ≤ pl g) (h2 : pl g ≤ pl h) : (apartB f g : Int) + (apartB h g : Int) = (apartB f h : Int) := by
  unfold apartB; omega
theorem apart_bound {a b : Nat} (ha : Num a) (hb : Num b) : apartB a b ≤ 18437736874454810625 := by
  have h1 := ha.pl_bound
  have h2 := hb.pl_bound
  unfold apartB; omega
/-- k steps up. -/
def upI (b : Nat) : Nat → Nat
  | 0 => b
  | k + 1 => upB (upI b k)
theorem Num.upI {b : Nat} (h : Num b) : ∀ k, Num (upI b k)
  | 0 => h
  | k + 1 => (Num.upI h k).up
theorem pl_upI {b : Nat} (h : Num b) : ∀ k : Nat, pl (upI b k) = min (pl b + k) 9218868437227405312
  | 0 => by have := h.pl_bound; show pl b = _; omega
  | k + 1 => by
    have ih := pl_upI h k
    have hb := (h.upI k).pl_bound
    show pl (upB (Go.Proofs.YtabnahkheemnmaaDoor.upI b k)) = _
    by_cases c : pl (Go.Proofs.YtabnahkheemnmaaDoor.upI b k) = 9218868437227405312
    · rw [upB_top c]; omega
    · rw [pl_up (h.upI k) c]; omega
theorem INF_num : Num 9218868437227405312 := ⟨by decide, by decide +kernel⟩
theorem NINF_num : Num 18442240474082181120 := ⟨by decide, by decide +kernel⟩
theorem pl_INF : pl 9218868437227405312 = 9218868437227405312 := by decide +kernel
theorem pl_NINF : pl 18442240474082181120 = -9218868437227405313 := by decide +kernel
theorem lt_inf {a : Nat} (h : Num a) : (ord (cn a) (cn 9218868437227405312) == some .lt) = decide (pl a ≠ 9218868437227405312) := by
  rw [h.cn, INF_num.cn]
  by_cases e : pl a = 9218868437227405312
  · have : a = 9218868437227405312 := pl_inj (by rw [e, pl_INF])
    subst this
    rw [decide_eq_false (by rw [e]; simp)]
    decide +kernel
  · have hb := h.pl_bound
    rw [decide_eq_true e]
    rcases ord_lt h INF_num (by rw [pl_INF]; omega) with h1 | ⟨_, h1⟩
    · exact h1
    · exact absurd h1 (by decide)
theorem gt_ninf {a : Nat} (h : Num a) : (ord (cn a) (cn 18442240474082181120) == some .gt) = decide (pl a ≠ -9218868437227405313) := by
  rw [h.cn, NINF_num.cn]
  by_cases e : pl a = -9218868437227405313
  · have : a = 18442240474082181120 := pl_inj (by rw [e, pl_NINF])
    subst this
    rw [decide_eq_false (by rw [e]; simp)]
    decide +kernel
  · rw [decide_eq_true e]
    obtain ⟨s, r, rfl, hr, e1⟩ := h.word
    have hn : (18442240474082181120 : Nat) = double.word true 9218868437227405312 := by decide +kernel
    rw [hn]
    unfold ord Format.order
    rw [read_inf]
    by_cases hri : r = 9218868437227405312
    · subst hri
      rw [read_inf]
      cases s
      · rfl
      · exfalso; apply e; rw [e1]; rfl
    · rw [read_word s r (by omega)]
      rfl
end Go.Proofs.YtabnahkheemnmaaDoor
