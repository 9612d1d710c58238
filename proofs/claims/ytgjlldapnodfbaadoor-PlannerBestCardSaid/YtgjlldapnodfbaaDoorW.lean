/-
  Words for the walks: float operations as laws on 'wpList' (a result known by its 'cn' alone, or exactly, where it is no NaN); the two worlds 'Kp' (what was there stays); comparisons and signs by 'cn'.
-/
import Derived.Test.YtgjlldapnodfbaaDoorFl
import Derived.WalkKit
import Derived.Lib.Hide
import Derived.WalkSpells
import Derived.WalkLawsBesides
import Derived.Deep.QuietTactic
import Derived.BigQuiet
import Derived.Laws.Rows
namespace Go.Fl
open Go Go.RowKit

section
variable {P : Program} {ops : Array Oper} {rest : List Oper} {a : Act} {Q : Exit → Act → World → Prop} {w : World}

/-- A float operation: its result is known by 'cn' alone. -/
theorem wpList_fl (op : BinOp) {d : Option Tmp} {x y : Operand} {t u ty : TypeId} {pos : String} {after : Array Edge} {X Y : Nat} (hop : isArith op = true)
    (hx : a.eval x = .float .f64 X) (hy : a.eval y = .float .f64 Y)
    (hK : ∀ r n, cn r = fl op (cn X) (cn Y) → wpList P ops Q rest (a.put d (.float .f64 r)) (w.drewN n)) :
    wpList P ops Q (⟨d, .binOp op t x y u, ty, pos, after, none⟩ :: rest) a w := by
  refine wpList_plain rfl fun K hK' => ?_
  obtain ⟨r, n, hrun, hr⟩ := run_floatArith_any (P := P) w op hop X Y
  have hr' : cn r = fl op (cn X) (cn Y) := by
    rw [hr]; cases op <;> simp only [isArith] at hop <;> first | (cases hop; done) | skip
    · show add X Y = add (cn X) (cn Y); rw [add_cn]
    · show sub X Y = sub (cn X) (cn Y); rw [sub_cn]
    · show mul X Y = mul (cn X) (cn Y); rw [mul_cn]
    · show div X Y = div (cn X) (cn Y); rw [div_cn]
  unfold Oper.wp
  have hb : ∀ t, (binOp op t (.float .f64 X) (.float .f64 Y)) = Op.floatArith op .f64 X Y := by
    intro t; cases op <;> simp only [isArith] at hop <;> first | (cases hop; done) | rfl
  have hq : (eqGuard op t x y (.float .f64 X) (.float .f64 Y)).run P w = .ok () w := by
    cases op <;> simp only [isArith] at hop <;> first | (cases hop; done) | rfl
  simp [execOp, hx, hy, hb, hq, hrun, Result.andThen]
  exact hK' _ _ (hK r n hr')

/-- A float operation whose result is no NaN: the very bits. -/
theorem wpList_flx (op : BinOp) {d : Option Tmp} {x y : Operand} {t u ty : TypeId} {pos : String} {after : Array Edge} {X Y : Nat} (hop : isArith op = true)
    (hx : a.eval x = .float .f64 X) (hy : a.eval y = .float .f64 Y) (hn : fl op X Y ≠ NAN)
    (hK : wpList P ops Q rest (a.put d (.float .f64 (fl op X Y))) w) :
    wpList P ops Q (⟨d, .binOp op t x y u, ty, pos, after, none⟩ :: rest) a w := by
  refine wpList_plain rfl fun K hK' => ?_
  unfold Oper.wp
  have hb : ∀ t, (binOp op t (.float .f64 X) (.float .f64 Y)) = Op.floatArith op .f64 X Y := by
    intro t; cases op <;> simp only [isArith] at hop <;> first | (cases hop; done) | rfl
  have hrun : (Op.floatArith op .f64 X Y).run P w = .ok (.float .f64 (fl op X Y)) w := by
    cases hf : floatBits op .f64 X Y with
    | none => exact absurd (by unfold fl; rw [hf]; rfl) hn
    | some r => rw [run_floatArith w hf]; unfold fl; rw [hf]; rfl
  have hq : (eqGuard op t x y (.float .f64 X) (.float .f64 Y)).run P w = .ok () w := by
    cases op <;> simp only [isArith] at hop <;> first | (cases hop; done) | rfl
  simp [execOp, hx, hy, hb, hq, hrun, Result.andThen]
  exact hK' _ _ hK
end

/-! ### Comparisons, signs, conversions -/
theorem format_order (x y : Nat) : FloatKind.f64.format.order x y = ord (cn x) (cn y) := (ord_cn x y).symm
theorem read_negFloat (x : Nat) : Ieee.double.read (Op.negFloat .f64 x) = (Ieee.double.read x).opposite := by
  have hs := signWeight_double
  have e : Op.negFloat .f64 x % Ieee.double.signWeight = x % Ieee.double.signWeight := by
    rw [hs]
    show (x ^^^ 2 ^ 63) % 0x8000000000000000 = x % 0x8000000000000000
    rw [show (0x8000000000000000 : Nat) = 2 ^ 63 from rfl, Nat.xor_mod_two_pow, Nat.mod_self]
    simp
  have t : ((Op.negFloat .f64 x) / Ieee.double.signWeight % 2 == 1) = !(x / Ieee.double.signWeight % 2 == 1) := by
    rw [hs, show (0x8000000000000000 : Nat) = 2 ^ 63 from rfl]
    have h1 : ∀ z : Nat, (z / 2 ^ 63 % 2 == 1) = z.testBit 63 := fun z => by
      rw [Nat.testBit_eq_decide_div_mod_eq]; rfl
    rw [h1, h1]
    show (x ^^^ 2 ^ 63).testBit 63 = _
    rw [Nat.testBit_xor, Nat.testBit_two_pow_self]
    simp
  unfold Ieee.Format.read
  simp only [e, t]
  split
  · rfl
  · split
    · rfl
    · split <;> rfl
theorem isN_negFloat (x : Nat) : isN (Op.negFloat .f64 x) = isN x := by
  unfold isN; rw [read_negFloat, opposite_nan]
theorem cn_negFloat (x : Nat) : cn (Op.negFloat .f64 x) = neg (cn x) := by
  unfold neg
  by_cases h : isN x = true
  · rw [cn_of _ (by rw [isN_negFloat]; exact h), cn_of _ (by rw [isN_negFloat, isN_cn]; exact h)]
  · have h' : isN x = false := by simpa using h
    rw [cn_of_not x h']
theorem neg_cn (x : Nat) : neg (cn x) = neg x := by
  show neg (cn x) = cn (Op.negFloat .f64 x); rw [cn_negFloat]
theorem cn_neg (x : Nat) : cn (neg x) = neg x := cn_cn _

theorem read_neg (x : Nat) (h : isN x = false) : Ieee.double.read (neg x) = (Ieee.double.read x).opposite := by
  unfold neg; rw [cn_of_not _ (by rw [isN_negFloat]; exact h), read_negFloat]
theorem isN_neg (x : Nat) : isN (neg x) = isN x := by
  unfold neg; rw [isN_cn, isN_negFloat]
theorem neg_neg (x : Nat) (h : cn x = x) : neg (neg x) = x := by
  have e : ∀ z : Nat, Op.negFloat .f64 (Op.negFloat .f64 z) = z := fun z => by
    show (z ^^^ 2 ^ 63) ^^^ 2 ^ 63 = z
    rw [Nat.xor_assoc, Nat.xor_self, Nat.xor_zero]
  show cn (Op.negFloat .f64 (neg x)) = x
  rw [cn_negFloat, neg_cn]
  show neg (neg x) = x
  unfold neg
  by_cases hn : isN x = true
  · rw [cn_of (Op.negFloat .f64 x) (by rw [isN_negFloat]; exact hn)]
    rw [cn_of _ (by rw [isN_negFloat]; exact isN_NAN), ← h, cn_of _ hn]
  · rw [cn_of_not (Op.negFloat .f64 x) (by rw [isN_negFloat]; simpa using hn), e, h]
theorem read_zero : Ieee.double.read 0 = .number false 0 Ieee.double.leastPlace := by decide +kernel
theorem order_zero (d : Ieee.Datum) (p : Int) : (d.opposite.order (.number false 0 p) == some .eq) = (d.order (.number false 0 p) == some .eq) := by
  cases d with
  | nan s t => rfl
  | infinity s => cases s <;> rfl
  | number s m e =>
    simp only [Ieee.Datum.opposite, Ieee.Datum.order]
    have h0 : ∀ b, Ieee.signed b 0 ((p - b.toInt).toNat) = 0 := by intro b; cases b <;> simp [Ieee.signed]
    have hz : Ieee.signed false 0 ((p - min e p).toNat) = 0 := by simp [Ieee.signed]
    rw [hz]
    have hn : Ieee.signed (!s) m ((e - min e p).toNat) = - Ieee.signed s m ((e - min e p).toNat) := by cases s <;> simp [Ieee.signed]
    rw [hn]
    generalize Ieee.signed s m ((e - min e p).toNat) = z
    have hc : ∀ z : Int, (some (compare z 0) == some Ordering.eq) = decide (z = 0) := by
      intro z
      have : (compare z 0 = .eq) ↔ z = 0 := Int.compare_eq_eq
      by_cases h : z = 0
      · rw [this.2 h]; simp [h]
      · have h2 : ¬ compare z 0 = .eq := fun h' => h (this.1 h')
        simp [h, h2]
    rw [hc, hc]
    by_cases h : z = 0
    · simp [h]
    · have : ¬ -z = 0 := by omega
      simp [h]
theorem ord_neg_zero (x : Nat) : (ord (neg x) 0 == some .eq) = (ord x 0 == some .eq) := by
  unfold ord Ieee.Format.order
  by_cases h : isN x = true
  · have h1 : (Ieee.double.read (neg x)).isNaN = true := by have := isN_neg x; unfold isN at this h; rw [this]; exact h
    rw [order_nan_l h1, order_nan_l h]
  · rw [read_neg x (by simpa using h), read_zero, order_zero]

/-! ### The world: what was there stays -/
def Kp (w w' : World) : Prop := Below w.heap.size w w'
theorem Kp.refl (w : World) : Kp w w := Below.refl _ _
theorem Kp.trans {a b c : World} (h : Kp a b) (k : Kp b c) : Kp a c := Below.trans h (Below.mono k (Below.size h))
theorem Kp.drewN {a b : World} (h : Kp a b) (n : Nat) : Kp a (b.drewN n) := ⟨h.os, h.tape, h.output, h.size, h.block⟩
theorem Kp.drew {a b : World} (h : Kp a b) : Kp a b.drew := Below.drew h
theorem Kp.alloc {a b : World} (h : Kp a b) (o : Obj) : Kp a (b.alloc o) := Below.alloc h h.size o
theorem Kp.setCell {a b : World} (h : Kp a b) {p : Addr} (hp : a.heap.size ≤ p.block) (u : Value) : Kp a (b.setCell p u) := Below.setCell h hp u
theorem Kp.setRow {a b : World} (h : Kp a b) {g : Nat} (hg : a.heap.size ≤ g) (cs : Array Value) : Kp a (b.setRow g cs) :=
  ⟨h.os, h.tape, h.output, by rw [setRow_size]; exact h.size, fun k hk => by rw [setRow_other _ _ _ _ (by omega)]; exact h.block k hk⟩
theorem Kp.cell {w w' : World} (h : Kp w w') {p : Addr} (hp : p.block < w.heap.size) : w'.cell? p = w.cell? p := Below.cell h hp
theorem Kp.frozen {w w' : World} (h : Kp w w') {p : Addr} (hp : p.block < w.heap.size) : w'.frozen? p = w.frozen? p := Below.frozen h hp
theorem Kp.size {w w' : World} (h : Kp w w') : w.heap.size ≤ w'.heap.size := Below.size h
theorem Kp.later {w w' : World} (h : Kp w w') {a : Addr} {v : Value} (hc : w.cell? a = some v) : w'.cell? a = some v := cell_later h hc
theorem Kp.facts {w w' : World} (h : Kp w w') : (∀ b o, b < w.heap.size → w'.cell? ⟨b, o, none⟩ = w.cell? ⟨b, o, none⟩) ∧ (∀ b o, b < w.heap.size → w'.frozen? ⟨b, o, none⟩ = w.frozen? ⟨b, o, none⟩) :=
  ⟨fun _ _ hb => h.cell (p := ⟨_, _, none⟩) hb, fun _ _ hb => h.frozen (p := ⟨_, _, none⟩) hb⟩

attribute [go_sem] format_order cn_negFloat

/-! ### Minus -/
@[go_sem] theorem run_neg_float {P : Program} (w : World) (k : FloatKind) (b : Nat) : (Op.unary .neg (.float k b)).run P w = .ok (.float k (Op.negFloat k b)) w := by simp [Op.unary]
@[go_sem] theorem run_neg_complex {P : Program} (w : World) (k : FloatKind) (a b : Nat) : (Op.unary .neg (.complex k a b)).run P w = .ok (.complex k (Op.negFloat k a) (Op.negFloat k b)) w := by simp [Op.unary]

/-! ### Stores of a float, a complex number, an interface value -/
section
variable (P : Program) (w : World) (a : Addr) (m : Mode)
@[go_sem] theorem run_store_float (k : FloatKind) (n : Nat) : (store a (.float k n) m).run P w = stored P w a (.float k n) m := run_store P w a _ m rfl
@[go_sem] theorem run_store_complex (k : FloatKind) (x y : Nat) : (store a (.complex k x y) m).run P w = stored P w a (.complex k x y) m := run_store P w a _ m rfl
@[go_sem] theorem run_store_iface (t : TypeId) (v : Value) : (store a (.iface t v) m).run P w = stored P w a (.iface t v) m := run_store P w a _ m rfl
@[go_sem] theorem run_store_nilIface : (store a .nilIface m).run P w = stored P w a .nilIface m := run_store P w a _ m rfl
end

/-! ### Rows that the call owns -/
theorem Kp.owns {w w' : World} {base : Nat} {e : TypeId} {size : Nat} {v : Value} {n : Nat} {xs : List Value} (k : Kp w w') (h : w.ownsRow base e size v n xs) : w'.ownsRow base e size v n xs := by
  have hl := h.lt
  obtain ⟨h1, h2⟩ := h
  refine ⟨h1, ?_⟩
  rcases h2 with h2 | ⟨g, cap, cur, hv, hg, hh, r⟩
  · exact Or.inl h2
  · refine Or.inr ⟨g, cap, cur, hv, hg, ?_, r⟩
    rw [k.block g ((hl g (by rw [hv]; rfl)).2)]
    exact hh
theorem Kp.grown {a w w' : World} {row : Option Nat} (h : Kp a w) (hg : w.grownBy w' row) (hr : ∀ k, row = some k → a.heap.size ≤ k) : Kp a w' :=
  Below.grown h hg h.size hr
theorem owns_mono {w : World} {base base' : Nat} {e : TypeId} {size : Nat} {v : Value} {n : Nat} {xs : List Value} (h : w.ownsRow base e size v n xs) (hb : base' ≤ base) : w.ownsRow base' e size v n xs := by
  refine ⟨h.1, ?_⟩
  rcases h.2 with h2 | ⟨g, cap, cur, hv, hg, r⟩
  · exact Or.inl h2
  · exact Or.inr ⟨g, cap, cur, hv, Nat.le_trans hb hg, r⟩
theorem owns_form {w : World} {base : Nat} {e : TypeId} {size : Nat} {v : Value} {n : Nat} {xs : List Value} (h : w.ownsRow base e size v n xs) (hn : 0 < n) : ∃ g cap, v = .slice (some ⟨g, 0, none⟩) n cap := by
  rcases h.2 with ⟨_, h2⟩ | ⟨g, cap, cur, hv, _⟩
  · omega
  · exact ⟨g, cap, hv⟩
theorem owns_drewN {w : World} {base : Nat} {e : TypeId} {size : Nat} {v : Value} {n : Nat} {xs : List Value} (h : w.ownsRow base e size v n xs) (k : Nat) : (w.drewN k).ownsRow base e size v n xs := h
theorem owns_lt {w : World} {base : Nat} {e : TypeId} {size : Nat} {g n cap : Nat} {xs : List Value} (h : w.ownsRow base e size (.slice (some ⟨g, 0, none⟩) n cap) n xs) : base ≤ g ∧ g < w.heap.size := h.lt g rfl

/-- The values are complex numbers whose parts are f's, but for the bits of a NaN. -/
def CL (xs : List Value) (f : Nat → Nat × Nat) (n : Nat) : Prop := xs.length = n ∧ ∀ j, j < n → ∃ c s, xs[j]? = some (.complex .f64 c s) ∧ cn c = (f j).1 ∧ cn s = (f j).2
end Go.Fl
