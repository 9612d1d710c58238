/-
  The walk of ChirpLists.
-/
import Derived.Test.YtnkcjbabfckdgaaDoorCNum
import Derived.Deep.DeepCutAuto
import Derived.Deep.CutBlock
namespace Go.Proofs.YtnkcjbabfckdgaaDoor
open Go Go.RowKit Go.Fl Go.Roots

theorem Rd.of_has {w : World} {g n : Nat} {f : Nat → Nat × Nat} (h : Has w g n f) : Rd w (some ⟨g, 0, none⟩) n f := fun _ => ⟨g, rfl, h⟩
theorem May_yes (n m : Int) (w : World) (h : OthOk n m) :
    Calls Tryd.prog 21 #[.int .i64 n, .int .i64 m] w fun e w' => e = .returned (.bool true) ∧ w = w' := by
  obtain ⟨h1, h2, h3, h4⟩ := h
  have b1 : decide (1 ≤ n) = true := by simpa using h1
  have b2 : decide (m ≤ 16384) = true := by simpa using h2
  have b3 : decide (n ≤ 16384) = true := by simpa using h3
  have b4 : decide (2 * n - 1 ≤ m) = true := by simpa using h4
  go_enter Tryd.func21, Tryd.ntmps21
  go_wp2_with fail
  go_ret
  exact ⟨rfl, rfl⟩
theorem May_no (n m : Int) (w : World) (h : ¬ OthOk n m) :
    Calls Tryd.prog 21 #[.int .i64 n, .int .i64 m] w fun e w' => e = .returned (.bool false) ∧ w = w' := by
  have key : decide (1 ≤ n) = false ∨ (decide (1 ≤ n) = true ∧ decide (m ≤ 16384) = false) ∨ (decide (1 ≤ n) = true ∧ decide (m ≤ 16384) = true ∧ decide (n ≤ 16384) = false) ∨
      ((decide (1 ≤ n) = true ∧ decide (m ≤ 16384) = true ∧ decide (n ≤ 16384) = true ∧ decide (2 * n - 1 ≤ m) = false) ∧ 1 ≤ n ∧ n ≤ 16384) := by
    unfold OthOk at h
    simp only [decide_eq_true_eq, decide_eq_false_iff_not]
    omega
  clear h
  rcases key with b1 | ⟨b1, b2⟩ | ⟨b1, b2, b3⟩ | ⟨⟨b1, b2, b3, b4⟩, h1, h2⟩
  all_goals
    go_enter Tryd.func21, Tryd.ntmps21
    go_wp2_with fail
    go_ret
    exact ⟨rfl, rfl⟩
theorem Num_len' (E : Nat → Addr) (w : World) (hE : Errs w E) :
    Calls Tryd.prog 11 #[.iface 78 (.pointer (some (E 6)))] w fun e w' => e = .returned (.int .i64 7) ∧ Kp w w' := Num_len E w hE
set_option maxRecDepth 100000 in
set_option maxHeartbeats 2000000 in
theorem lists_bad (n m : Int) (E : Nat → Addr) (w : World) (hE : Errs w E) (hm : -9223372036854775808 ≤ m) (h : n < 1 ∨ 16384 < n) :
    Calls Tryd.prog 4 #[.int .i64 n, .int .i64 m] w fun e w' => e = .returned (.bool true) ∧ Kp w w' := by
  have hno : ¬ OthOk n m := by unfold OthOk; omega
  have HE := Lib.hid hE
  have HH := Lib.hid h
  have HNO := Lib.hid hno
  have key : decide (n < 1) = true ∨ (decide (n < 1) = false ∧ decide (16384 < n) = true) := by simp; omega
  clear hE h hno
  rcases key with d1 | ⟨d1, d2⟩
  all_goals
    go_enter Tryd.func4, Tryd.ntmps4
    go_wp2_with (first
      | (go_at_call 8; (refine (clives_any _).mono ?_); rintro e w0 ⟨rfl, hkq⟩)
      | (go_at_call 17; (with_reducible refine (CList_bad _ (E 6) _ (HE.out.kp hkq).len HH.out).mono ?_); rintro e wn ⟨rfl, hkn⟩; have hkq := hkq.trans hkn; clear hkn)
      | (go_at_call 20; (with_reducible refine (COther_bad _ _ (E 6) _ (HE.out.kp hkq).len hm HNO.out).mono ?_); rintro e wn ⟨rfl, hkn⟩; have hkq := hkq.trans hkn; clear hkn)
      | (go_at_call 21; (with_reducible refine (May_no _ _ _ HNO.out).mono ?_); rintro e wn ⟨rfl, rfl⟩)
      | (go_at_call 11; (with_reducible refine (Num_len' E _ (HE.out.kp hkq)).mono ?_); rintro e wn ⟨rfl, hkn⟩; have hkq := hkq.trans hkn; clear hkn))
    go_ret
    exact ⟨rfl, hkq⟩
set_option maxRecDepth 100000 in
set_option maxHeartbeats 2000000 in
theorem lists_half (n : Nat) (m : Int) (E : Nat → Addr) (w : World) (hE : Errs w E) (hm : -9223372036854775808 ≤ m) (h1 : 1 ≤ n) (h2 : n ≤ 16384) (hno : ¬ OthOk n m) :
    Calls Tryd.prog 4 #[.int .i64 n, .int .i64 m] w fun e w' => e = .returned (.bool true) ∧ Kp w w' := by
  have HE := Lib.hid hE
  have HNO := Lib.hid hno
  have d1 : decide ((n : Int) < 1) = false := by simp; omega
  have d2 : decide ((16384 : Int) < n) = false := by simp; omega
  clear hE hno
  go_enter Tryd.func4, Tryd.ntmps4
  go_wp2_with (first
    | (go_at_call 8; (refine (clives_any _).mono ?_); rintro e w0 ⟨rfl, hkq⟩)
    | (go_at_call 17; (with_reducible refine (CList_any n _ h1 h2).mono ?_); rintro e wn ⟨ga, xa, rfl, hoa, hpa, hkn⟩; have HA := Lib.hid (Rd.of_has (Has.own hoa (Nat.le_refl _) hpa)); have hkq := hkq.trans hkn; clear hkn hoa hpa)
    | (go_at_call 19; (with_reducible refine (rList_any n _ h1 h2).mono ?_); rintro e wn ⟨v, rfl, hco, hkn⟩; obtain ⟨ol, cl, rfl, hrl⟩ := hco.rd; have HL := Lib.hid hrl; have HA2 := Lib.hid (HA.out.kp hkn); have hkq := hkq.trans hkn; clear hkn hco hrl)
    | (go_at_call 18; (with_reducible refine (dsameList_yes _ _ n _ _ _ _ (by omega) HA2.out HL.out).mono ?_); rintro e wn ⟨rfl, hkn⟩; have hkq := hkq.trans hkn; clear hkn)
    | (go_at_call 20; (with_reducible refine (COther_bad _ _ (E 6) _ (HE.out.kp hkq).len hm HNO.out).mono ?_); rintro e wn ⟨rfl, hkn⟩; have hkq := hkq.trans hkn; clear hkn)
    | (go_at_call 21; (with_reducible refine (May_no _ _ _ HNO.out).mono ?_); rintro e wn ⟨rfl, rfl⟩)
    | (go_at_call 11; (with_reducible refine (Num_len' E _ (HE.out.kp hkq)).mono ?_); rintro e wn ⟨rfl, hkn⟩; have hkq := hkq.trans hkn; clear hkn))
  go_ret
  exact ⟨rfl, hkq⟩
/-- Three lists of the call's own; the first is written over. -/
structure RB (n : Nat) (w wr : World) (ga gb gr : Nat) (xa xb xw : List Value) : Prop where
  a : wr.ownsRow w.heap.size 23 1 (.slice (some ⟨ga, 0, none⟩) n n) n xa
  b : wr.ownsRow w.heap.size 23 1 (.slice (some ⟨gb, 0, none⟩) n n) n xb
  r : wr.ownsRow w.heap.size 23 1 (.slice (some ⟨gr, 0, none⟩) n n) n xw
  k : Kp w wr
theorem RB.store {n : Nat} {w wr : World} {ga gb gr : Nat} {xa xb xw : List Value} (h : RB n w wr ga gb gr xa xb xw) (h1 : ga ≠ gb) (h2 : ga ≠ gr) (k : Nat) (v : Value) :
    RB n w (wr.setCell ⟨ga, k, none⟩ v) ga gb gr (xa.set k v) xb xw := by
  obtain ⟨s1, s2⟩ := h.a.stored k v
  refine ⟨s1, h.b.kept s2 (.inr ?_), h.r.kept s2 (.inr ?_), h.k.setCell (h.a.lt ga rfl).1 _⟩
  · intro e; cases e; exact h1 rfl
  · intro e; cases e; exact h2 rfl
theorem ten_eq : (ord (cn 4621819117588971520) (cn 4621819117588971520) == some .eq) = true := by decide +kernel
theorem nil_eq : (ord 0 0 == some .eq) = true := by decide +kernel
set_option maxRecDepth 100000 in
set_option maxHeartbeats 4000000 in
theorem lists_good (n m : Nat) (w : World) (h1 : 1 ≤ n) (h2 : n ≤ 16384) (h3 : 2 * n ≤ m + 1) (h4 : m ≤ 16384) :
    Calls Tryd.prog 4 #[.int .i64 n, .int .i64 m] w fun e w' => e = .returned (.bool true) ∧ Kp w w' := by
  have HOK : Hid (OthOk n m) := Lib.hid (by unfold OthOk; omega)
  have d1 : decide ((n : Int) < 1) = false := by simp; omega
  have d2 : decide ((16384 : Int) < n) = false := by simp; omega
  have e0 := cn_0
  have e8 := ten_eq
  have z8 := nil_eq
  obtain ⟨i0, hi, hz0, hz1, hz2⟩ := info_parts info_c
  go_enter Tryd.func4, Tryd.ntmps4
  go_upto_region 15 with (first
    | (go_at_call 8; (refine (clives_any _).mono ?_); rintro e w0 ⟨rfl, hk0⟩)
    | (go_at_call 17; (with_reducible refine (CList_any n _ h1 h2).mono ?_); rintro e wn ⟨gl, xl, rfl, hoa, hpa, hkn⟩; have HA := Lib.hid (Rd.of_has (Has.own hoa (Nat.le_refl _) hpa)); have hk0 := hk0.trans hkn; clear hkn hoa hpa)
    | (go_at_call 19; (with_reducible refine (rList_any n _ h1 h2).mono ?_); rintro e wn ⟨v, rfl, hco, hkn⟩; obtain ⟨ol, cl, rfl, hrl⟩ := hco.rd; have HL := Lib.hid hrl; have HA2 := Lib.hid (HA.out.kp hkn); have hk0 := hk0.trans hkn; clear hkn hco hrl)
    | (go_at_call 18; (with_reducible refine (dsameList_yes _ _ n _ _ _ _ (by omega) HA2.out HL.out).mono ?_); rintro e wn ⟨rfl, hkn⟩; have hk1 := hk0.trans hkn; clear hkn hk0)
    | (go_at_call 20; (refine (COther_any n m _ h1 h3 h4).mono ?_); rintro e w2 ⟨gb, xb, rfl, hob, hpb, hk2⟩; have hkA := hk1; clear hk1)
    | (go_at_call 20; (refine (COther_any n m _ h1 h3 h4).mono ?_); rintro e w3 ⟨gc, xc, rfl, hoc, hpc, hk3⟩)
    | (go_at_call 21; (with_reducible refine (May_yes _ _ _ HOK.out).mono ?_); rintro e wn ⟨rfl, rfl⟩)
    | (go_at_call 22; (refine (rOther_any n m _ h1 h3 h4).mono ?_); rintro e w4 ⟨gr, xr, rfl, hor, hpr, hk4⟩))
  have lb := hob.lt gb rfl
  have lc := hoc.lt gc rfl
  have lr := hor.lt gr rfl
  have sc := hk3.size
  have n1 : gb ≠ gc := by omega
  have n2 : gb ≠ gr := by omega
  have RB0 : RB m w w4 gb gc gr xb xc xr := ⟨owns_mono (hk4.owns (hk3.owns hob)) hkA.size, owns_mono (hk4.owns hoc) (hkA.trans hk2).size, owns_mono hor ((hkA.trans hk2).trans hk3).size, ((hkA.trans hk2).trans hk3).trans hk4⟩
  have HB : Hid (Rd w4 (some ⟨gb, 0, none⟩) m (oth n m n)) := Lib.hid (Rd.of_has (Has.own RB0.a (Nat.le_refl _) hpb))
  have HR : Hid (Rd w4 (some ⟨gr, 0, none⟩) m (oth n m n)) := Lib.hid (Rd.of_has (Has.own RB0.r (Nat.le_refl _) hpr))
  have HPC := Lib.hid (And.intro hpc hpr)
  have HNE := Lib.hid (And.intro n1 n2)
  clear lb lc lr sc n1 n2 hob hoc hor hpb hpc hpr hk2 hk3 hk4 hkA
  go_upto_region 17 with (go_at_call 18; (with_reducible refine (dsameList_yes _ _ m _ _ _ _ (by omega) HB.out HR.out).mono ?_); rintro e w5 ⟨rfl, hkn⟩; have RB1 : RB m w w5 gb gc gr xb xc xr := ⟨hkn.owns RB0.a, hkn.owns RB0.b, hkn.owns RB0.r, RB0.k.trans hkn⟩; clear RB0 hkn)
  clear HB HR
  go_wp2_with fail
  go_loopw [12, 90] (fun _ c wr => ∃ (k : Nat) (ya : List Value), k ≤ m ∧ c = .int .i64 k ∧ RB m w wr gb gc gr ya xc xr) (fun _ c _ => m - (intOf c).toNat)
  case atStart => exact ⟨0, xb, by omega, rfl, RB1⟩
  case round =>
    clear RB1
    obtain ⟨k, ya, hk, rfl, hR⟩ := hrel
    have hlen := hR.a.1
    by_cases hlt : k < m
    · have q1 := hR.a.cellAt k (by omega)
      rw [List.getElem?_eq_getElem (show k < ya.length by omega)] at q1
      have q3 := hR.a.frozenAt k
      go_wp2_with fail
      go_roundw
      case rel => exact ⟨k + 1, _, by omega, by go_num, hR.store HNE.out.1 HNE.out.2 k _⟩
      case measure => simp [intOf]; omega
    · obtain rfl : m = k := by omega
      have hm1 : 1 ≤ m := by omega
      go_wp2_with (at_builtin; refine wpList_append_own _ rfl _ _ 38 rfl w.heap.size 23 i0 (.complex .f64 0 0) 1 16 Tryd.underlying38 hi hz0 hz1 hz2 rfl (by decide) _ _ _ rfl (hR.a.alloc _) ⟨wr.heap.size, 0, none⟩ 1 1 [.complex .f64 4621819117588971520 0] rfl rfl ?c1 ?c2 ?c3 ?c4 ?c5 ?_)
      case c1 => exact cell_one_new _ _ _
      case c2 => simp [Value.oneCell']
      case c3 => unfold maxLen; omega
      case c4 => omega
      case c5 => have e1 := hR.k.size; simp; omega
      intro v' w5 hown5 hg _
      have hk5 : Kp w w5 := (hR.k.alloc _).grown hg (fun j hj => (hR.a.lt j hj).1)
      have hb5 := (hR.b.alloc _).kept hg (.inr (by intro e; cases e; exact HNE.out.1 rfl))
      have hr5 := (hR.r.alloc _).kept hg (.inr (by intro e; cases e; exact HNE.out.2 rfl))
      clear hg hi hz0 hz1 hz2
      obtain ⟨g5, c5, rfl⟩ := owns_form hown5 (by omega)
      have hlast : w5.cell? ⟨g5, m, none⟩ = some (.complex .f64 4621819117588971520 0) := by
        rw [hown5.cellAt m (by omega), List.getElem?_append_right (by omega)]
        simp [hlen]
      have HB5 : Hid (Rd w5 (some ⟨gc, 0, none⟩) m (oth n m n)) := Lib.hid (Rd.of_has (Has.own hb5 (Nat.le_refl _) HPC.out.1))
      have HR5 : Hid (Rd w5 (some ⟨gr, 0, none⟩) m (oth n m n)) := Lib.hid (Rd.of_has (Has.own hr5 (Nat.le_refl _) HPC.out.2))
      clear hown5 hR hlen hb5 hr5
      go_wp2_with (go_at_call 18; (with_reducible refine (dsameList_yes _ _ m _ _ _ _ (by omega) HB5.out HR5.out).mono ?_); rintro e w6 ⟨rfl, hkn⟩; have hlast6 := hkn.later hlast)
      go_ret
      exact ⟨rfl, hk5.trans hkn⟩
theorem walk_ChirpLists (n : Int) (_ : (Lit.int .i64 n).wf = true) (m : Int) (wm : (Lit.int .i64 m).wf = true) (E : Nat → Addr) (w : World) (hE : Errs w E) :
    Calls Tryd.prog 4 #[.int .i64 n, .int .i64 m] w fun e w' => e = .returned (.bool true) ∧ Kp w w' := by
  have hm : -9223372036854775808 ≤ m := by
    simp [Lit.wf, IntKind.min, IntKind.max, IntKind.signed, IntKind.bits] at wm
    omega
  by_cases h : n < 1 ∨ 16384 < n
  · exact lists_bad n m E w hE hm h
  · obtain ⟨a, rfl⟩ := Int.eq_ofNat_of_zero_le (show 0 ≤ n by omega)
    by_cases h2 : OthOk a m
    · have h3 := h2
      unfold OthOk at h3
      obtain ⟨b, rfl⟩ := Int.eq_ofNat_of_zero_le (show 0 ≤ m by omega)
      exact lists_good a b w (by omega) (by omega) (by omega) (by omega)
    · exact lists_half a m E w hE hm (by omega) (by omega) h2
end Go.Proofs.YtnkcjbabfckdgaaDoor
