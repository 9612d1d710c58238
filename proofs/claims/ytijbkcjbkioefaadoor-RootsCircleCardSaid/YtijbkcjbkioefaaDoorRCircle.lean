/-
  The walk of RootsCircle.
-/
import Derived.Test.YtijbkcjbkioefaaDoorRPlaces
import Derived.Test.YtijbkcjbkioefaaDoorRCirc2
import Derived.Deep.DeepCutAuto
import Derived.Deep.CutBlock
namespace Go.Proofs.YtijbkcjbkioefaaDoor
open Go Go.RowKit Go.Fl Go.Roots Go.Circ Ieee

theorem raw_word {x : Nat} {s : Bool} {z : Nat} (hz : z < 0x7ff0000000000000) (h : cn x = double.word s z) : x = double.word s z := by
  by_cases hn : isN x = true
  · have h2 := isN_word s z (by rw [infRung_double]; omega)
    have h3 := isN_cn x
    rw [h, h2, hn] at h3
    cases h3
  · rw [← h, cn_of_not x (by simpa using hn)]
theorem find_fma : Extern.find Tryd.f31 = some Extern.MathFMA.fma := by kernel_rfl
theorem fma_eq (x y z r : Nat) (h : FloatKind.f64.format.fma x y z = some r) : Extern.MathFMA.fma #[.float .f64 x, .float .f64 y, .float .f64 z] = pure (.float .f64 r) := by
  show (match FloatKind.f64.format.fma x y z with
    | some r => (pure (.float .f64 r) : Sem Value)
    | none => _) = _
  rw [h]
theorem run_fma (x y z r : Nat) (h : double.fma x y z = some r) (w : World) : (callFunc 31 #[.float .f64 x, .float .f64 y, .float .f64 z]).run Tryd.prog w = .ok (.value (.float .f64 r)) w := by
  rw [run_callFunc_extern Tryd.func31 (by kernel_rfl) (by kernel_rfl) (by kernel_rfl) find_fma, fma_eq x y z r h]
  rfl
theorem fma_call (s : Bool) (z c x : Nat) (hz : z ≤ ONE) (hc : c = double.word s z) (hx : cn x = fl .mul (cn c) (cn c)) :
    x = mul z z ∧ ∃ (R : Nat) (q : Rat), (∀ w, (callFunc 31 #[.float .f64 c, .float .f64 c, .float .f64 (Op.negFloat .f64 x)]).run Tryd.prog w = .ok (.value (.float .f64 R)) w) ∧ SV R q ∧ -(4 * hh) ≤ q ∧ q ≤ 4 * hh := by
  have one : ONE < 0x7ff0000000000000 := by decide
  have hz' : z < 0x7ff0000000000000 := by omega
  have e3 : cn (double.word s z) = double.word s z := cn_of_not _ (isN_word _ _ (by rw [infRung_double]; omega))
  have hm := (mul_near hz hz).1
  have hX : x = mul z z := by
    rw [hc, e3] at hx
    have h2 : fl .mul (double.word s z) (double.word s z) = double.word false (mul z z) := by
      show mul (double.word s z) (double.word s z) = _
      rw [mul_words s s z z hz' hz', mul_pos z z hz' hz']
      cases s <;> rfl
    rw [h2] at hx
    have := raw_word (by omega) hx
    rw [word_false] at this
    exact this
  refine ⟨hX, ?_⟩
  obtain ⟨t, u, hf, hu⟩ := fma_small s z hz
  obtain ⟨s0, s1⟩ := SMALL_val hu
  have hu2 : u < 0x7ff0000000000000 := Nat.lt_of_le_of_lt hu (by decide)
  have hn : Op.negFloat .f64 (mul z z) = double.word true (mul z z) := by
    have h1 := neg_word false (mul z z) (by omega)
    rw [word_false] at h1
    exact raw_word (by omega) h1
  refine ⟨_, _, fun w => by rw [hX, hn, hc]; exact run_fma _ _ _ _ hf w, SV.of_word t hu2, ?_, ?_⟩
  · have := hh_pos
    generalize RR u = v at *
    generalize hh = h at *
    cases t <;> simp <;> grind
  · have := hh_pos
    generalize RR u = v at *
    generalize hh = h at *
    cases t <;> simp <;> grind
theorem cmp_ge {i j : Int} (h : j ≤ i) : (some (compare i j) == some Ordering.gt || some (compare i j) == some Ordering.eq) = true := by
  rcases Int.lt_or_eq_of_le h with h | h
  · rw [Int.compare_eq_gt.2 h]; rfl
  · rw [Int.compare_eq_eq.2 h.symm]; rfl
theorem cmp_le {i j : Int} (h : i ≤ j) : (some (compare i j) == some Ordering.lt || some (compare i j) == some Ordering.eq) = true := by
  rcases Int.lt_or_eq_of_le h with h | h
  · rw [Int.compare_eq_lt.2 h]; rfl
  · rw [Int.compare_eq_eq.2 h]; rfl
theorem unit_cmp (s : Bool) (z : Nat) (hz : z ≤ ONE) : (ord (cn (double.word s z)) (cn 13830554455654793216) == some Ordering.gt || ord (cn (double.word s z)) (cn 13830554455654793216) == some Ordering.eq) = true ∧
    (ord (cn (double.word s z)) (cn 4607182418800017408) == some Ordering.lt || ord (cn (double.word s z)) (cn 4607182418800017408) == some Ordering.eq) = true := by
  have one : ONE < 0x7ff0000000000000 := by decide
  have v := (val_le (show z < 0x7ff0000000000000 by omega) one).2 hz
  have e1 : cn 13830554455654793216 = double.word true ONE := by decide +kernel
  have e2 : cn 4607182418800017408 = double.word false ONE := by decide +kernel
  have e3 : cn (double.word s z) = double.word s z := cn_of_not _ (isN_word _ _ (by rw [infRung_double]; omega))
  rw [e1, e2, e3, ord_words s true z ONE (by omega) one, ord_words s false z ONE (by omega) one]
  constructor
  · apply cmp_ge; unfold sg; cases s <;> simp <;> omega
  · apply cmp_le; unfold sg; cases s <;> simp <;> omega
set_option maxRecDepth 100000 in
set_option maxHeartbeats 1000000 in
theorem walk_RootsCircle (n0 : Int) (hwn : (Lit.int .i64 n0).wf = true) (k0 : Int) (_ : (Lit.int .i64 k0).wf = true) (w : World) :
    Calls Tryd.prog 9 #[.int .i64 n0, .int .i64 k0] w fun e w' => e = .returned (.bool true) ∧ Kp w w' := by
  have e0 := cn_0
  go_enter Tryd.func9, Tryd.ntmps9
  go_wp2_with fail
  refine (lives_any _).mono ?_
  rintro e w1 ⟨rfl, hk1⟩
  go_wp2_with fail
  refine (fit_any _ _ _ hwn).mono ?_
  rintro e w2 ⟨k, rfl, kl, ku, rfl⟩
  have n1 : 1 ≤ 1 + n0 % 4194304 := by omega
  have n2 : 1 + n0 % 4194304 ≤ 4194304 := by omega
  generalize 1 + n0 % 4194304 = n at n1 n2 ⊢
  go_wp2_with fail
  refine (Root_any _ _ _ n1 n2).mono ?_
  rintro e w3 ⟨c, s, rfl, hc, hs, hk3⟩
  obtain ⟨a, b, ha, hb, ⟨sa, ea⟩, ⟨sb, eb⟩, hcirc⟩ := root_circle n k n1 n2
  have one : ONE < 0x7ff0000000000000 := by decide
  rw [ea] at hc
  rw [eb] at hs
  have hcA := raw_word (by omega) hc
  have hsB := raw_word (by omega) hs
  obtain ⟨t1, t2⟩ := unit_cmp sa a ha
  obtain ⟨t3, t4⟩ := unit_cmp sb b hb
  rw [← hcA] at t1 t2
  rw [← hsB] at t3 t4
  have H := Lib.hid (And.intro hcA (And.intro hsB (And.intro ha (And.intro hb hcirc))))
  clear ha hb ea eb hcirc hc hs hcA hsB
  go_upto_region 10 with fail
  clear t1 t2 t3 t4
  go_upto_region 11 with (first
    | ((with_reducible apply wpList_fl .mul rfl); exact rfl; exact rfl; intro r1 m1 hr1))
  rename_i ra ma hra Kq aq
  obtain ⟨eX, R1, q1, f1, V1, b1, b2⟩ := fma_call sa a c ra H.out.2.2.1 H.out.1 hra
  obtain ⟨eY, R2, q2, f2, V2, b3, b4⟩ := fma_call sb b s r1 H.out.2.2.2.1 H.out.2.1 hr1
  have H2 := Lib.hid (And.intro eX (And.intro eY (And.intro V1 (And.intro b1 (And.intro b2 (And.intro V2 (And.intro b3 b4)))))))
  clear eX eY V1 b1 b2 V2 b3 b4 hra hr1
  go_upto_region 13 with (first
    | ((with_reducible apply wpList_fl .sub rfl); exact rfl; exact rfl; intro r2 m2 hr2)
    | ((with_reducible apply wpList_fl .add rfl); exact rfl; exact rfl; intro r3 m3 hr3))
  rename_i ra2 ma2 hra2 rb2 mb2 hrb2 K2 a2
  have key : ord (cn r3) (cn 4395513236313604096) = some .lt ∧ ord (cn r3) (cn 13618885273168379904) = some .gt := by
    obtain ⟨eX, eY, V1, b1, b2, V2, b3, b4⟩ := H2.out
    obtain ⟨_, _, ha, hb, hcirc⟩ := H.out
    obtain ⟨k1, k2⟩ := off_small ha hb hcirc V1 V2 b1 b2 b3 b4
    have sX : cn (mul a a) = mul a a := (SV.of_pos (Nat.lt_of_le_of_lt (mul_near ha ha).1 one)).cn
    have sY : cn (mul b b) = mul b b := (SV.of_pos (Nat.lt_of_le_of_lt (mul_near hb hb).1 one)).cn
    have s1 : cn 4607182418800017408 = ONE := by decide +kernel
    have s2 : cn 4395513236313604096 = LIM := by decide +kernel
    have s3 : cn 13618885273168379904 = neg LIM := by decide +kernel
    simp only [*, sX, sY, s1, s2, s3, V1.cn, V2.cn]
    exact ⟨k1, k2⟩
  obtain ⟨c1, c2⟩ := key
  have d1 : (ord (cn r3) (cn 4395513236313604096) == some Ordering.lt) = true := by rw [c1]; rfl
  have d2 : (ord (cn r3) (cn 13618885273168379904) == some Ordering.gt) = true := by rw [c2]; rfl
  clear c1 c2 H H2 hr2 hra2 hrb2 hr3
  go_wp2_with fail
  go_ret
  exact ⟨rfl, (hk1.trans hk3).drewN _⟩
end Go.Proofs.YtijbkcjbkioefaaDoor
