/-
  Floats modulo NaN: 'cn b' is b, but one fixed NaN for every NaN. The five operations on bits, and what the model's runs give of them: a result whose 'cn' is the operation's, whatever NaN the tape has drawn. No program in sight but the model's own operations.
-/
import Derived.Laws.FloatArith
import Derived.Laws.ComplexArith
import Derived.Deep.Draws
import Derived.OwnWalk
import Derived.Below
namespace Go.Fl
open Go Go.RowKit

def NAN : Nat := 0x7ff8000000000000
def isN (b : Nat) : Bool := (Ieee.double.read b).isNaN
def cn (b : Nat) : Nat := if isN b then NAN else b

theorem isN_NAN : isN NAN = true := by decide +kernel
theorem cn_NAN : cn NAN = NAN := by unfold cn; split <;> rfl
theorem cn_0 : cn 0 = 0 := by decide +kernel
theorem isN_cn (b : Nat) : isN (cn b) = isN b := by
  unfold cn; split
  · rename_i h; rw [h, isN_NAN]
  · rfl
theorem cn_cn (b : Nat) : cn (cn b) = cn b := by
  by_cases h : isN b = true
  · have : cn b = NAN := by unfold cn; rw [if_pos h]
    rw [this, cn_NAN]
  · have : cn b = b := by unfold cn; rw [if_neg h]
    rw [this, this]
theorem cn_of_not (b : Nat) (h : isN b = false) : cn b = b := by unfold cn; rw [h]; rfl
theorem cn_of (b : Nat) (h : isN b = true) : cn b = NAN := by unfold cn; rw [h]; rfl

/-- The read of a word is the same, or both are NaN. -/
theorem read_cn (b : Nat) : Ieee.double.read (cn b) = Ieee.double.read b ∨ ((Ieee.double.read b).isNaN = true ∧ (Ieee.double.read (cn b)).isNaN = true) := by
  by_cases h : isN b = true
  · right; exact ⟨h, by have := isN_cn b; unfold isN at this; rw [this]; exact h⟩
  · left; rw [cn_of_not b (by simpa using h)]

theorem nan_form {d : Ieee.Datum} (h : d.isNaN = true) : ∃ s t, d = .nan s t := by
  cases d with
  | nan s t => exact ⟨s, t, rfl⟩
  | number _ _ _ => simp [Ieee.Datum.isNaN] at h
  | infinity _ => simp [Ieee.Datum.isNaN] at h

theorem sum_nan_l {d e : Ieee.Datum} (h : d.isNaN = true) : d.sum e = none := by
  obtain ⟨s, t, rfl⟩ := nan_form h; cases e <;> rfl
theorem sum_nan_r {d e : Ieee.Datum} (h : e.isNaN = true) : d.sum e = none := by
  obtain ⟨s, t, rfl⟩ := nan_form h; cases d <;> rfl
theorem product_nan_l {d e : Ieee.Datum} (h : d.isNaN = true) : d.product e = none := by
  obtain ⟨s, t, rfl⟩ := nan_form h; cases e <;> rfl
theorem product_nan_r {d e : Ieee.Datum} (h : e.isNaN = true) : d.product e = none := by
  obtain ⟨s, t, rfl⟩ := nan_form h; cases d <;> rfl
theorem quotient_nan_l {n : Nat} {d e : Ieee.Datum} (h : d.isNaN = true) : d.quotient n e = none := by
  obtain ⟨s, t, rfl⟩ := nan_form h; cases e <;> rfl
theorem quotient_nan_r {n : Nat} {d e : Ieee.Datum} (h : e.isNaN = true) : d.quotient n e = none := by
  obtain ⟨s, t, rfl⟩ := nan_form h; cases d <;> rfl
theorem order_nan_l {d e : Ieee.Datum} (h : d.isNaN = true) : d.order e = none := by
  obtain ⟨s, t, rfl⟩ := nan_form h; cases e <;> rfl
theorem order_nan_r {d e : Ieee.Datum} (h : e.isNaN = true) : d.order e = none := by
  obtain ⟨s, t, rfl⟩ := nan_form h; cases d <;> rfl
theorem opposite_nan {d : Ieee.Datum} : d.opposite.isNaN = d.isNaN := by cases d <;> rfl

def add (x y : Nat) : Nat := (Ieee.double.add x y).getD NAN
def sub (x y : Nat) : Nat := (Ieee.double.sub x y).getD NAN
def mul (x y : Nat) : Nat := (Ieee.double.mul x y).getD NAN
def div (x y : Nat) : Nat := (Ieee.double.div x y).getD NAN
def ord (x y : Nat) : Option Ordering := Ieee.double.order x y
def neg (x : Nat) : Nat := cn (Op.negFloat .f64 x)
def ofInt (n : Int) : Nat := floatOfInt .f64 n

theorem fadd_cn (x y : Nat) : Ieee.double.add (cn x) (cn y) = Ieee.double.add x y := by
  unfold Ieee.Format.add
  rcases read_cn x with hx | ⟨hx, hx'⟩
  · rcases read_cn y with hy | ⟨hy, hy'⟩
    · rw [hx, hy]
    · rw [sum_nan_r hy, sum_nan_r hy']
  · rw [sum_nan_l hx, sum_nan_l hx']
theorem fsub_cn (x y : Nat) : Ieee.double.sub (cn x) (cn y) = Ieee.double.sub x y := by
  unfold Ieee.Format.sub
  rcases read_cn x with hx | ⟨hx, hx'⟩
  · rcases read_cn y with hy | ⟨hy, hy'⟩
    · rw [hx, hy]
    · rw [sum_nan_r (by rw [opposite_nan]; exact hy'), sum_nan_r (by rw [opposite_nan]; exact hy)]
  · rw [sum_nan_l hx, sum_nan_l hx']
theorem fmul_cn (x y : Nat) : Ieee.double.mul (cn x) (cn y) = Ieee.double.mul x y := by
  unfold Ieee.Format.mul
  rcases read_cn x with hx | ⟨hx, hx'⟩
  · rcases read_cn y with hy | ⟨hy, hy'⟩
    · rw [hx, hy]
    · rw [product_nan_r hy, product_nan_r hy']
  · rw [product_nan_l hx, product_nan_l hx']
theorem fdiv_cn (x y : Nat) : Ieee.double.div (cn x) (cn y) = Ieee.double.div x y := by
  unfold Ieee.Format.div
  rcases read_cn x with hx | ⟨hx, hx'⟩
  · rcases read_cn y with hy | ⟨hy, hy'⟩
    · rw [hx, hy]
    · rw [quotient_nan_r hy, quotient_nan_r hy']
  · rw [quotient_nan_l hx, quotient_nan_l hx']
theorem ord_cn (x y : Nat) : ord (cn x) (cn y) = ord x y := by
  unfold ord Ieee.Format.order
  rcases read_cn x with hx | ⟨hx, hx'⟩
  · rcases read_cn y with hy | ⟨hy, hy'⟩
    · rw [hx, hy]
    · rw [order_nan_r hy, order_nan_r hy']
  · rw [order_nan_l hx, order_nan_l hx']

theorem add_cn (x y : Nat) : add (cn x) (cn y) = add x y := by unfold add; rw [fadd_cn]
theorem sub_cn (x y : Nat) : sub (cn x) (cn y) = sub x y := by unfold sub; rw [fsub_cn]
theorem mul_cn (x y : Nat) : mul (cn x) (cn y) = mul x y := by unfold mul; rw [fmul_cn]
theorem div_cn (x y : Nat) : div (cn x) (cn y) = div x y := by unfold div; rw [fdiv_cn]
theorem add_cnl (x y : Nat) : add (cn x) y = add x y := by rw [← add_cn, cn_cn, add_cn]
theorem add_cnr (x y : Nat) : add x (cn y) = add x y := by rw [← add_cn, cn_cn, add_cn]
theorem sub_cnl (x y : Nat) : sub (cn x) y = sub x y := by rw [← sub_cn, cn_cn, sub_cn]
theorem sub_cnr (x y : Nat) : sub x (cn y) = sub x y := by rw [← sub_cn, cn_cn, sub_cn]
theorem mul_cnl (x y : Nat) : mul (cn x) y = mul x y := by rw [← mul_cn, cn_cn, mul_cn]
theorem mul_cnr (x y : Nat) : mul x (cn y) = mul x y := by rw [← mul_cn, cn_cn, mul_cn]
theorem div_cnl (x y : Nat) : div (cn x) y = div x y := by rw [← div_cn, cn_cn, div_cn]
theorem div_cnr (x y : Nat) : div x (cn y) = div x y := by rw [← div_cn, cn_cn, div_cn]
theorem ord_cnl (x y : Nat) : ord (cn x) y = ord x y := by rw [← ord_cn, cn_cn, ord_cn]
theorem ord_cnr (x y : Nat) : ord x (cn y) = ord x y := by rw [← ord_cn, cn_cn, ord_cn]

/-! ### A written word is no NaN -/
theorem infRung_double : Ieee.double.infRung = 0x7ff0000000000000 := by decide +kernel
theorem signWeight_double : Ieee.double.signWeight = 0x8000000000000000 := by decide +kernel
theorem binade_double : Ieee.double.binade = 0x10000000000000 := by decide +kernel
theorem isN_word (s : Bool) (r : Nat) (h : r ≤ Ieee.double.infRung) : isN (Ieee.double.word s r) = false := by
  have hs := signWeight_double
  have hi := infRung_double
  have e : Ieee.double.word s r % Ieee.double.signWeight = r := by
    unfold Ieee.Format.word
    cases s
    · simp only [Bool.false_eq_true, if_false]; exact Nat.mod_eq_of_lt (by omega)
    · simp only [if_true]; rw [Nat.add_mod_left]; exact Nat.mod_eq_of_lt (by omega)
  unfold isN Ieee.Format.read
  simp only [e]
  split
  · rfl
  · split
    · rfl
    · rw [if_pos (by omega)]; rfl
theorem isN_nearest (s : Bool) (m : Nat) (p : Int) : isN (Ieee.double.nearest s m p) = false := by
  unfold Ieee.Format.nearest
  dsimp only
  split
  · exact isN_word _ _ (Nat.zero_le _)
  · exact isN_word _ _ (Nat.min_le_right _ _)
theorem isN_write {d : Ieee.Datum} (h : d.isNaN = false) : isN (Ieee.double.write d) = false := by
  cases d with
  | nan s t => simp [Ieee.Datum.isNaN] at h
  | number s m p => exact isN_nearest s m p
  | infinity s => exact isN_word _ _ (Nat.le_refl _)

theorem sum_not {d e r : Ieee.Datum} (h : d.sum e = some r) : r.isNaN = false := by
  cases d <;> cases e <;> simp [Ieee.Datum.sum] at h
  all_goals first | (subst h; rfl) | (obtain ⟨_, h⟩ := h; subst h; rfl)
theorem product_not {d e r : Ieee.Datum} (h : d.product e = some r) : r.isNaN = false := by
  cases d <;> cases e <;> simp [Ieee.Datum.product] at h
  all_goals first | (subst h; rfl) | (obtain ⟨_, h⟩ := h; subst h; rfl)
theorem quotient_not {n : Nat} {d e r : Ieee.Datum} (h : d.quotient n e = some r) : r.isNaN = false := by
  cases d <;> cases e <;> simp only [Ieee.Datum.quotient] at h <;> first | (cases h; done) | (cases h; rfl) | skip
  split at h
  · split at h
    · cases h
    · cases h; rfl
  · cases h; rfl

theorem isN_fadd {x y r : Nat} (h : Ieee.double.add x y = some r) : isN r = false := by
  unfold Ieee.Format.add at h
  obtain ⟨d, hd, rfl⟩ := Option.map_eq_some_iff.1 h
  exact isN_write (sum_not hd)
theorem isN_fsub {x y r : Nat} (h : Ieee.double.sub x y = some r) : isN r = false := by
  unfold Ieee.Format.sub at h
  obtain ⟨d, hd, rfl⟩ := Option.map_eq_some_iff.1 h
  exact isN_write (sum_not hd)
theorem isN_fmul {x y r : Nat} (h : Ieee.double.mul x y = some r) : isN r = false := by
  unfold Ieee.Format.mul at h
  obtain ⟨d, hd, rfl⟩ := Option.map_eq_some_iff.1 h
  exact isN_write (product_not hd)
theorem isN_fdiv {x y r : Nat} (h : Ieee.double.div x y = some r) : isN r = false := by
  unfold Ieee.Format.div at h
  obtain ⟨d, hd, rfl⟩ := Option.map_eq_some_iff.1 h
  exact isN_write (quotient_not hd)

theorem cn_getD {o : Option Nat} (h : ∀ r, o = some r → isN r = false) : cn (o.getD NAN) = o.getD NAN := by
  cases o with
  | none => exact cn_NAN
  | some r => exact cn_of_not _ (h r rfl)
theorem cn_add (x y : Nat) : cn (add x y) = add x y := cn_getD fun _ h => isN_fadd h
theorem cn_sub (x y : Nat) : cn (sub x y) = sub x y := cn_getD fun _ h => isN_fsub h
theorem cn_mul (x y : Nat) : cn (mul x y) = mul x y := cn_getD fun _ h => isN_fmul h
theorem cn_div (x y : Nat) : cn (div x y) = div x y := cn_getD fun _ h => isN_fdiv h
theorem isN_ofInt (n : Int) : isN (ofInt n) = false := isN_nearest _ _ _
theorem cn_ofInt (n : Int) : cn (ofInt n) = ofInt n := cn_of_not _ (isN_ofInt n)

/-- The product of two complex numbers, by parts. -/
def cmul (a b : Nat × Nat) : Nat × Nat := (sub (mul a.1 b.1) (mul a.2 b.2), add (mul a.1 b.2) (mul a.2 b.1))

/-- The operation of a binary operator. -/
def fl (op : BinOp) (x y : Nat) : Nat := (floatBits op .f64 x y).getD NAN
theorem fl_add : fl .add = add := rfl
theorem fl_sub : fl .sub = sub := rfl
theorem fl_mul : fl .mul = mul := rfl
theorem fl_quo : fl .quo = div := rfl
theorem fl_mul' (x y : Nat) : fl .mul x y = mul x y := rfl
theorem fl_quo' (x y : Nat) : fl .quo x y = div x y := rfl
theorem fl_add' (x y : Nat) : fl .add x y = add x y := rfl
theorem fl_sub' (x y : Nat) : fl .sub x y = sub x y := rfl

/-! ### The model's runs -/
theorem isN_drawn (t : Nat) : isN ((t % 2) * 2 ^ 63 + 0x7ff0000000000000 + 1 + (t / 2) % (2 ^ 52 - 1)) = true := by
  have h1 : t % 2 < 2 := Nat.mod_lt _ (by omega)
  have h2 : (t / 2) % (2 ^ 52 - 1) < 2 ^ 52 - 1 := Nat.mod_lt _ (by omega)
  have hs := signWeight_double
  have hi := infRung_double
  have hb := binade_double
  generalize (t / 2) % (2 ^ 52 - 1) = u at *
  generalize t % 2 = s at *
  have e : (s * 2 ^ 63 + 0x7ff0000000000000 + 1 + u) % Ieee.double.signWeight = 0x7ff0000000000000 + 1 + u := by rw [hs]; omega
  unfold isN Ieee.Format.read
  simp only [e]
  rw [if_neg (by omega), if_neg (by omega), if_neg (by omega)]
  rfl

def isArith : BinOp → Bool
  | .add | .sub | .mul | .quo => true
  | _ => false

theorem run_floatArith_any {P : Program} (w : World) (op : BinOp) (h : isArith op = true) (x y : Nat) :
    ∃ r n, (Op.floatArith op .f64 x y).run P w = .ok (.float .f64 r) (w.drewN n) ∧ cn r = fl op x y := by
  cases hb : floatBits op .f64 x y with
  | some r =>
    refine ⟨r, 0, ?_, ?_⟩
    · rw [World.drewN_zero]; exact run_floatArith w hb
    · unfold fl; rw [hb]
      refine cn_of_not _ ?_
      unfold floatBits at hb
      cases op <;> simp only at hb <;> first | (cases hb; done) | exact isN_fadd hb | exact isN_fsub hb | exact isN_fmul hb | exact isN_fdiv hb
  | none =>
    have hd := isN_drawn (w.tape w.drawn (.nanBits .f64 x y))
    refine ⟨(Question.nanBits .f64 x y).cut (w.tape w.drawn (.nanBits .f64 x y)), 1, ?_, ?_⟩
    · unfold floatBits at hb
      cases op <;> simp only [isArith] at h <;> first | (cases h; done) | skip
      all_goals
        simp only at hb
        simp [Op.floatArith, hb, Question.forced]
        rfl
    · unfold fl; rw [hb]
      exact cn_of _ hd

end Go.Fl
