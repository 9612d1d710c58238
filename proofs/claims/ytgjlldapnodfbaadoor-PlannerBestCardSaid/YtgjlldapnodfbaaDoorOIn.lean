/-
  Orders in memory; the walks of the reference's Parts, deep, length, Length, Check.
-/
import Derived.Test.YtgjlldapnodfbaaDoorOTr
import Derived.WalkKit
namespace Go.Proofs.YtgjlldapnodfbaaDoor
open Go Go.RowKit Go.Fl Go.Ord

/-- An order lies there (its kids' cells; what it shares with others does not matter). -/
def OIn (w : World) : Tr → Value → Prop
  | .nil, _ => False
  | .mk k n m kid, v => ∃ o c, v = .agg #[.int .i64 k, .int .i64 n, .slice o m c] ∧ (m ≤ 5864062014805 ∧ -9223372036854775808 ≤ n ∧ n ≤ 9223372036854775807) ∧
      (0 < m → ∃ g off, o = some ⟨g, off, none⟩ ∧ g < w.heap.size ∧ ∀ i, i < m → ∃ a b s, w.cell? ⟨g, off + i * 3, none⟩ = some a ∧ w.cell? ⟨g, off + i * 3 + 1, none⟩ = some b ∧ w.cell? ⟨g, off + i * 3 + 2, none⟩ = some s ∧ OIn w (kid i) (.agg #[a, b, s]))
theorem OIn.nil {w : World} {v : Value} (h : OIn w .nil v) : False := by simp [OIn] at h
theorem OIn.kp {w w' : World} : ∀ {T : Tr} {v : Value}, OIn w T v → Kp w w' → OIn w' T v := by
  intro T
  induction T with
  | nil => intros; exact (OIn.nil (by assumption)).elim
  | mk k n m kid ih =>
    rintro v ⟨o, c, h1, hb, h2⟩ hk
    refine ⟨o, c, h1, hb, fun hm => ?_⟩
    obtain ⟨g, off, e, hg, hc⟩ := h2 hm
    refine ⟨g, off, e, Nat.lt_of_lt_of_le hg hk.size, fun i hi => ?_⟩
    obtain ⟨a, b, s, q1, q2, q3, h⟩ := hc i hi
    exact ⟨a, b, s, hk.later q1, hk.later q2, hk.later q3, ih i h hk⟩
/-- The kids of an order, as the walks read them. -/
theorem OIn.kid {w : World} {k n : Int} {m : Nat} {kid : Nat → Tr} {o : Option Addr} {c : Nat} {v : Value} (h : OIn w (.mk k n m kid) v) (hv : v = .agg #[.int .i64 k, .int .i64 n, .slice o m c]) (hm : 0 < m) :
    ∃ g off, o = some ⟨g, off, none⟩ ∧ g < w.heap.size ∧ ∀ i, i < m → ∃ k' n' m' o' c', w.cell? ⟨g, off + i * 3, none⟩ = some (.int .i64 k') ∧ w.cell? ⟨g, off + i * 3 + 1, none⟩ = some (.int .i64 n') ∧ w.cell? ⟨g, off + i * 3 + 2, none⟩ = some (.slice o' m' c') ∧
      OIn w (kid i) (.agg #[.int .i64 k', .int .i64 n', .slice o' m' c']) := by
  obtain ⟨o1, c1, e1, _, h2⟩ := h
  rw [hv] at e1
  have e2 : o = o1 ∧ c = c1 := by simpa using e1
  obtain ⟨rfl, rfl⟩ := e2
  obtain ⟨g, off, e, hg, hc⟩ := h2 hm
  refine ⟨g, off, e, hg, fun i hi => ?_⟩
  obtain ⟨a, b, s, q1, q2, q3, h⟩ := hc i hi
  have h' := h
  cases hkid : kid i with
  | nil => rw [hkid] at h'; exact (OIn.nil h').elim
  | mk k' n' m' kid' =>
    rw [hkid] at h'
    obtain ⟨o', c', e3, _⟩ := h'
    have e4 : a = .int .i64 k' ∧ b = .int .i64 n' ∧ s = .slice o' m' c' := by simpa using e3
    obtain ⟨rfl, rfl, rfl⟩ := e4
    rw [hkid] at h
    exact ⟨k', n', m', o', c', q1, q2, q3, h⟩
theorem box3 (w : World) (a b c : Value) (t : TypeId) : (w.alloc (.cells #[a, b, c] t)).cell? ⟨w.heap.size, 0, none⟩ = some a ∧ (w.alloc (.cells #[a, b, c] t)).cell? ⟨w.heap.size, 1, none⟩ = some b ∧ (w.alloc (.cells #[a, b, c] t)).cell? ⟨w.heap.size, 2, none⟩ = some c := by
  have h := World.ownsRow_lit (base := w.heap.size) (e := t) (size := 1) w #[a, b, c] 3 (Nat.le_refl _) (by decide) rfl
  exact ⟨(h.cellAt 0 (by decide)), (h.cellAt 1 (by decide)), (h.cellAt 2 (by decide))⟩

theorem sumTo_mono (f : Nat → Nat) {i m : Nat} (h : i < m) : sumTo f (i + 1) ≤ sumTo f m := by
  induction m with
  | zero => omega
  | succ m ih =>
    by_cases e : i = m
    · subst e; exact Nat.le_refl _
    · have := ih (by omega)
      show _ ≤ sumTo f m + f m
      omega
set_option maxRecDepth 100000 in
set_option maxHeartbeats 1000000 in
theorem Parts_any (T : Tr) : ∀ (v : Value) (q : Nat) (w : World), q ≤ 1000000 → OIn w T v → Calls Tryd.prog 80 #[v, .int .i64 q] w fun e w' => e = .returned (.int .i64 ((min T.parts (q + 1) : Nat) : Int)) ∧ Kp w w' := by
  induction T with
  | nil => intros; exact (OIn.nil (by assumption)).elim
  | mk k n m kid ih =>
    intro v q w hq hT
    have hT0 := hT
    obtain ⟨o, c, rfl, ⟨hm, _, _⟩, _⟩ := hT0
    have HT := Lib.hid hT
    have hp : Hid ((Tr.mk k n m kid).parts = 1 + sumTo (fun i => (kid i).parts) m) := Lib.hid (by conv => lhs; unfold Tr.parts)
    obtain ⟨f, hf⟩ : ∃ f : Nat → Nat, (fun i => (kid i).parts) = f := ⟨_, rfl⟩
    rw [hf] at hp
    have HF := Lib.hid hf
    clear hT hf
    go_enter Tryd.func80, Tryd.ntmps80
    go_wp2_with fail
    go_loopw [5, 7, 11] (fun x _ y wr => ∃ i : Nat, i ≤ m ∧ y = .int .i64 i ∧ x = .int .i64 ((min (1 + sumTo f i) (q + 1) : Nat) : Int) ∧ Kp w wr) (fun _ _ y _ => m - (intOf y).toNat)
    case atStart => exact ⟨0, by omega, rfl, by simp [sumTo], (Kp.refl w).alloc _⟩
    case round =>
      obtain ⟨i, hi, rfl, rfl, hkr⟩ := hrel
      by_cases hlt : i < m
      · obtain ⟨g, off, rfl, hg, hcells⟩ := HT.out.kid rfl (by omega)
        obtain ⟨k', n', m', o', c', q1, q2, q3, hkid⟩ := hcells i hlt
        have q1 := hkr.later q1
        have q2 := hkr.later q2
        have q3 := hkr.later q3
        have hsum : Hid (sumTo f (i + 1) = sumTo f i + f i) := Lib.hid rfl
        have hS : Hid (sumTo f m = sumTo f m ∧ sumTo f (i + 1) ≤ sumTo f m) := Lib.hid ⟨rfl, sumTo_mono f hlt⟩
        obtain ⟨s, hs⟩ : ∃ s, sumTo f i = s := ⟨_, rfl⟩
        rw [hs] at hsum ⊢
        obtain ⟨x, hx⟩ : ∃ x, min (1 + s) (q + 1) = x := ⟨_, rfl⟩
        rw [hx]
        by_cases hxq : q < x
        · have d1 : decide ((q : Int) < (x : Int)) = true := by simp; omega
          have HX := Lib.hid (And.intro hx hxq)
          clear hx
          go_wp2_with fail
          go_ret
          have e : min (Tr.mk k n m kid).parts (q + 1) = x := by
            have := HX.out; have := hp.out; have := hS.out; have := hsum.out
            omega
          rw [e]
          exact ⟨rfl, hkr.alloc _⟩
        · have d1 : decide ((q : Int) < (x : Int)) = false := by simp; omega
          have hc : Hid (∀ w', Kp w w' → Calls Tryd.prog 80 #[.agg #[.int .i64 k', .int .i64 n', .slice o' m' c'], .int .i64 ((q - x : Nat) : Int)] w' fun e w'' => e = .returned (.int .i64 ((min (f i) (q - x + 1) : Nat) : Int)) ∧ Kp w' w'') := Lib.hid fun w' hk => by
            have := ih i _ (q - x) w' (by omega) (hkid.kp hk)
            have e : (kid i).parts = f i := congrFun HF.out i
            rw [e] at this
            exact this
          obtain ⟨r, hr⟩ : ∃ r, q - x = r := ⟨_, rfl⟩
          have er : (q : Int) - (x : Int) = (r : Int) := by omega
          obtain ⟨y, hy⟩ : ∃ y, min (f i) (q - x + 1) = y := ⟨_, rfl⟩
          rw [hy, hr] at hc
          have hyb : y ≤ 1000001 := by omega
          have hxb : x ≤ 1000001 := by omega
          have HX := Lib.hid (And.intro hx (And.intro hxq (And.intro hy hr)))
          have hkb := hkr.alloc (.cells #[.int .i64 k', .int .i64 n', .slice o' m' c'] 28)
          clear hx hxq hy hr hcells hkid hs
          go_wp2_with fail
          refine (hc.out _ hkb).mono ?_
          rintro e w2 ⟨rfl, hk2⟩
          go_wp2_with fail
          go_roundw
          case rel => exact ⟨i + 1, by omega, by go_num, by have := HX.out; have := hsum.out; (congr 1; omega), hkb.trans hk2⟩
          case measure => simp [intOf]; omega
      · obtain rfl : m = i := by omega
        go_wp2_with fail
        go_ret
        rw [hp.out]
        exact ⟨rfl, hkr⟩

theorem maxTo_iff (f : Nat → Nat) (q : Nat) : ∀ m, maxTo f m ≤ q ↔ ∀ j, j < m → f j ≤ q
  | 0 => by simp [maxTo]
  | m + 1 => by
    have ih := maxTo_iff f q m
    show max (maxTo f m) (f m) ≤ q ↔ _
    constructor
    · intro h j hj
      by_cases e : j = m
      · subst e; omega
      · exact ih.1 (by omega) j (by omega)
    · intro h
      have := ih.2 fun j hj => h j (by omega)
      have := h m (by omega)
      omega
set_option maxRecDepth 100000 in
set_option maxHeartbeats 1000000 in
theorem deep_any (T : Tr) : ∀ (v : Value) (q : Nat) (w : World), q ≤ 1000000 → OIn w T v → Calls Tryd.prog 81 #[v, .int .i64 q] w fun e w' => e = .returned (.bool (decide (T.depth ≤ q))) ∧ Kp w w' := by
  induction T with
  | nil => intros; exact (OIn.nil (by assumption)).elim
  | mk k n m kid ih =>
    intro v q w hq hT
    have hT0 := hT
    obtain ⟨o, c, rfl, ⟨hm, _, _⟩, _⟩ := hT0
    have HT := Lib.hid hT
    have hd : Hid ((Tr.mk k n m kid).depth ≤ q ↔ 1 ≤ q ∧ ∀ j, j < m → (kid j).depth ≤ q - 1) := Lib.hid (by
      have e : (Tr.mk k n m kid).depth = maxTo (fun i => (kid i).depth) m + 1 := by conv => lhs; unfold Tr.depth
      rw [e]
      have := maxTo_iff (fun i => (kid i).depth) (q - 1) m
      constructor
      · intro h; exact ⟨by omega, this.1 (by omega)⟩
      · intro h; have := this.2 h.2; omega)
    clear hT
    by_cases hq0 : q < 1
    · have hn : Hid (decide ((Tr.mk k n m kid).depth ≤ q) = false) := Lib.hid (decide_eq_false fun h => by have := (hd.out.1 h).1; omega)
      go_enter Tryd.func81, Tryd.ntmps81
      go_wp2_with fail
      go_ret
      rw [hn.out]
      exact ⟨rfl, (Kp.refl w).alloc _⟩
    · obtain ⟨q', hq'⟩ : ∃ q', q - 1 = q' := ⟨_, rfl⟩
      have d0 : decide ((q : Int) < 1) = false := by simp; omega
      have eq' : (q : Int) - 1 = (q' : Int) := by omega
      have hqb : q' ≤ 1000000 := by omega
      have HD : Hid ((Tr.mk k n m kid).depth ≤ q ↔ ∀ j, j < m → (kid j).depth ≤ q') := Lib.hid ⟨fun h => by have := (hd.out.1 h).2; rw [hq'] at this; exact this, fun h => hd.out.2 ⟨by omega, by rw [hq']; exact h⟩⟩
      clear hd hq'
      go_enter Tryd.func81, Tryd.ntmps81
      go_wp2_with fail
      go_loopw [6, 7, 13] (fun _ _ y wr => ∃ i : Nat, i ≤ m ∧ y = .int .i64 i ∧ Hid (∀ j, j < i → (kid j).depth ≤ q') ∧ Kp w wr) (fun _ _ y _ => m - (intOf y).toNat)
      case atStart => exact ⟨0, by omega, rfl, Lib.hid fun j hj => by omega, (Kp.refl w).alloc _⟩
      case round =>
        obtain ⟨i, hi, rfl, HI, hkr⟩ := hrel
        by_cases hlt : i < m
        · obtain ⟨g, off, rfl, hg, hcells⟩ := HT.out.kid rfl (by omega)
          obtain ⟨k', n', m', o', c', q1, q2, q3, hkid⟩ := hcells i hlt
          have q1 := hkr.later q1
          have q2 := hkr.later q2
          have q3 := hkr.later q3
          have hkb := hkr.alloc (.cells #[.int .i64 k', .int .i64 n', .slice o' m' c'] 28)
          have hc : Hid (∀ w', Kp w w' → Calls Tryd.prog 81 #[.agg #[.int .i64 k', .int .i64 n', .slice o' m' c'], .int .i64 (q' : Int)] w' fun e w'' => e = .returned (.bool (decide ((kid i).depth ≤ q'))) ∧ Kp w' w'') := Lib.hid fun w' hk => ih i _ q' w' (by omega) (hkid.kp hk)
          by_cases hdi : (kid i).depth ≤ q'
          · rw [decide_eq_true hdi] at hc
            have HI2 : Hid (∀ j, j < i + 1 → (kid j).depth ≤ q') := Lib.hid fun j hj => by
              by_cases e : j = i
              · subst e; exact hdi
              · exact HI.out j (by omega)
            clear hdi hcells hkid
            go_wp2_with fail
            refine (hc.out _ hkb).mono ?_
            rintro e w2 ⟨rfl, hk2⟩
            go_wp2_with fail
            go_roundw
            case rel => exact ⟨i + 1, by omega, by go_num, HI2, hkb.trans hk2⟩
            case measure => simp [intOf]; omega
          · rw [decide_eq_false hdi] at hc
            have HN : Hid (decide ((Tr.mk k n m kid).depth ≤ q) = false) := Lib.hid (decide_eq_false fun h => hdi (HD.out.1 h i hlt))
            clear hdi hcells hkid
            go_wp2_with fail
            refine (hc.out _ hkb).mono ?_
            rintro e w2 ⟨rfl, hk2⟩
            go_wp2_with fail
            go_ret
            rw [HN.out]
            exact ⟨rfl, hkb.trans hk2⟩
        · obtain rfl : m = i := by omega
          have HY : Hid (decide ((Tr.mk k n m kid).depth ≤ q) = true) := Lib.hid (decide_eq_true (HD.out.2 HI.out))
          go_wp2_with fail
          go_ret
          rw [HY.out]
          exact ⟨rfl, hkr⟩
theorem le_quo {a b : Int} (hb : 2 ≤ b) : a ≤ 16384 / b ↔ a * b ≤ 16384 := Int.le_ediv_iff_mul_le (by omega)
set_option maxRecDepth 100000 in
set_option maxHeartbeats 2000000 in
theorem rlength_any (T : Tr) : ∀ (v : Value) (w : World), OIn w T v → Calls Tryd.prog 82 #[v] w fun e w' => e = .returned (.int .i64 T.len) ∧ Kp w w' := by
  induction T with
  | nil => intros; exact (OIn.nil (by assumption)).elim
  | mk k n m kid ih =>
    intro v w hT
    have hT0 := hT
    obtain ⟨o, c, rfl, ⟨hm, n0, n1⟩, _⟩ := hT0
    have HT := Lib.hid hT
    have HI := Lib.hid ih
    clear hT ih
    by_cases k1 : k = 1
    · subst k1
      have HL := Lib.hid (len1 n m kid)
      by_cases hm0 : m = 0
      · have b0 : ((m : Int) == 0) = true := by simp [hm0]
        have HM := Lib.hid hm0
        clear hm0
        go_enter Tryd.func82, Tryd.ntmps82
        go_wp2_with fail
        all_goals go_ret
        all_goals rw [HL.out]
        all_goals have hm0 := HM.out
        all_goals first
          | (rw [if_pos (by omega)]; exact ⟨rfl, (Kp.refl w).alloc _⟩)
          | (rw [if_neg (by omega)]; exact ⟨rfl, (Kp.refl w).alloc _⟩)
      · have b0 : ((m : Int) == 0) = false := by simp [hm0]
        have HM := Lib.hid hm0
        clear hm0
        go_enter Tryd.func82, Tryd.ntmps82
        go_wp2_with fail
        all_goals go_ret
        all_goals rw [HL.out]
        all_goals have hm0 := HM.out
        all_goals (rw [if_neg (by omega)]; exact ⟨rfl, (Kp.refl w).alloc _⟩)
    by_cases k2 : k = 2
    · subst k2
      have HL := Lib.hid (len2 n m kid)
      by_cases hm0 : m = 0
      · have b0 : ((m : Int) == 0) = true := by simp [hm0]
        have HM := Lib.hid hm0
        clear hm0
        go_enter Tryd.func82, Tryd.ntmps82
        go_wp2_with fail
        all_goals go_ret
        all_goals rw [HL.out]
        all_goals have hm0 := HM.out
        all_goals first
          | (rw [if_pos (by omega)]; exact ⟨rfl, (Kp.refl w).alloc _⟩)
          | (rw [if_neg (by omega)]; exact ⟨rfl, (Kp.refl w).alloc _⟩)
      · have b0 : ((m : Int) == 0) = false := by simp [hm0]
        have HM := Lib.hid hm0
        clear hm0
        go_enter Tryd.func82, Tryd.ntmps82
        go_wp2_with fail
        all_goals go_ret
        all_goals rw [HL.out]
        all_goals have hm0 := HM.out
        all_goals (rw [if_neg (by omega)]; exact ⟨rfl, (Kp.refl w).alloc _⟩)
    by_cases k3 : k = 3
    · subst k3
      have HL := Lib.hid (len3 n m kid)
      by_cases hc : n = 0 ∧ m = 2
      · obtain ⟨rfl, rfl⟩ := hc
        obtain ⟨g, off, rfl, hg, hcells⟩ := HT.out.kid rfl (by omega)
        obtain ⟨ka, na, ma, oa, ca, q1, q2, q3, hkid0⟩ := hcells 0 (by omega)
        obtain ⟨kb, nb, mb, ob, cb, q4, q5, q6, hkid1⟩ := hcells 1 (by omega)
        have hk0 := (Kp.refl w).alloc (.cells #[.int .i64 3, .int .i64 0, .slice (some ⟨g, off, none⟩) 2 c] 28)
        have h0 : Hid (∀ w', Kp w w' → Calls Tryd.prog 82 #[.agg #[.int .i64 ka, .int .i64 na, .slice oa ma ca]] w' fun e w'' => e = .returned (.int .i64 (kid 0).len) ∧ Kp w' w'') := Lib.hid fun w' hk => HI.out 0 _ w' (hkid0.kp hk)
        have h1 : Hid (∀ w', Kp w w' → Calls Tryd.prog 82 #[.agg #[.int .i64 kb, .int .i64 nb, .slice ob mb cb]] w' fun e w'' => e = .returned (.int .i64 (kid 1).len) ∧ Kp w' w'') := Lib.hid fun w' hk => HI.out 1 _ w' (hkid1.kp hk)
        simp only [Nat.zero_mul, Nat.one_mul, Nat.add_zero, Nat.add_assoc, Nat.reduceAdd] at q1 q2 q3 q4 q5 q6
        obtain ⟨a0, a1⟩ := (kid 0).len_range
        obtain ⟨b0, b1⟩ := (kid 1).len_range
        rw [if_pos ⟨rfl, rfl⟩] at HL
        generalize (kid 0).len = la at *
        generalize (kid 1).len = lb at *
        obtain ⟨P, hP⟩ : ∃ P, la * lb = P := ⟨_, rfl⟩
        have hP0 : 0 ≤ P := by rw [← hP]; exact Int.mul_nonneg a0 b0
        have hP1 : P ≤ 16384 * 16384 := by rw [← hP]; exact Int.mul_le_mul a1 b1 b0 (by omega)
        have HQ : Hid (2 ≤ lb → (la ≤ 16384 / lb ↔ P ≤ 16384)) := Lib.hid fun h => by rw [← hP]; exact le_quo h
        rw [hP] at HL
        clear hcells hkid0 hkid1 HT HI
        go_enter Tryd.func82, Tryd.ntmps82
        go_wp2_with (first
          | (go_at_call 82; (with_reducible refine (h0.out _ hk0).mono ?_); rintro e w1 ⟨rfl, hk1⟩; have q4 := hk1.later (hk0.later q4); have q5 := hk1.later (hk0.later q5); have q6 := hk1.later (hk0.later q6); have hb := box3 w (.int .i64 3) (.int .i64 0) (.slice (some ⟨g, off, none⟩) 2 c) 28; have r1 := hk1.later hb.1; have r2 := hk1.later hb.2.1; have r3 := hk1.later hb.2.2; have hk01 := hk0.trans hk1)
          | (go_at_call 82; (with_reducible refine (h1.out _ hk01).mono ?_); rintro e w2 ⟨rfl, hk2⟩; have r4 := hk2.later r1; have r5 := hk2.later r2; have r6 := hk2.later r3))
        all_goals go_ret
        all_goals rw [HL.out]
        all_goals first
          | (rw [if_pos (by have := HQ.out; omega)]; exact ⟨rfl, hk01.trans hk2⟩)
          | (rw [if_neg (by have := HQ.out; omega)]; exact ⟨rfl, hk01.trans hk2⟩)
      · rw [if_neg hc] at HL
        have key : ((n != 0) = true) ∨ ((n != 0) = false ∧ ((m : Int) != 2) = true) := by simp; omega
        clear hc
        rcases key with d1 | ⟨d1, d2⟩
        all_goals
          go_enter Tryd.func82, Tryd.ntmps82
          go_wp2_with fail
          go_ret
          rw [HL.out]
          exact ⟨rfl, (Kp.refl w).alloc _⟩
    by_cases k4 : k = 4
    · subst k4
      have HL := Lib.hid (len4 n m kid)
      by_cases hc : 2 ≤ n ∧ n ≤ 8192 ∧ m = 1
      · obtain ⟨c1, c2, rfl⟩ := hc
        obtain ⟨g, off, rfl, hg, hcells⟩ := HT.out.kid rfl (by omega)
        obtain ⟨ka, na, ma, oa, ca, q1, q2, q3, hkid0⟩ := hcells 0 (by omega)
        have hk0 := (Kp.refl w).alloc (.cells #[.int .i64 4, .int .i64 n, .slice (some ⟨g, off, none⟩) 1 c] 28)
        have h0 : Hid (∀ w', Kp w w' → Calls Tryd.prog 82 #[.agg #[.int .i64 ka, .int .i64 na, .slice oa ma ca]] w' fun e w'' => e = .returned (.int .i64 (kid 0).len) ∧ Kp w' w'') := Lib.hid fun w' hk => HI.out 0 _ w' (hkid0.kp hk)
        simp only [Nat.zero_mul, Nat.add_zero] at q1 q2 q3
        obtain ⟨a0, a1⟩ := (kid 0).len_range
        rw [if_pos ⟨c1, c2, rfl⟩] at HL
        generalize (kid 0).len = la at *
        clear hcells hkid0 HT HI
        go_enter Tryd.func82, Tryd.ntmps82
        go_wp2_with (go_at_call 82; (with_reducible refine (h0.out _ hk0).mono ?_); rintro e w1 ⟨rfl, hk1⟩; have hb := box3 w (.int .i64 4) (.int .i64 n) (.slice (some ⟨g, off, none⟩) 1 c) 28; have r1 := hk1.later hb.1; have r2 := hk1.later hb.2.1; have r3 := hk1.later hb.2.2)
        all_goals go_ret
        all_goals rw [HL.out]
        all_goals first
          | (rw [if_pos (by omega)]; exact ⟨rfl, hk0.trans hk1⟩)
          | (rw [if_neg (by omega)]; exact ⟨rfl, hk0.trans hk1⟩)
      · rw [if_neg hc] at HL
        have key : (decide (n < 2) = true) ∨ (decide (n < 2) = false ∧ decide (8192 < n) = true) ∨ (decide (n < 2) = false ∧ decide (8192 < n) = false ∧ ((m : Int) != 1) = true) := by simp; omega
        clear hc
        rcases key with d1 | ⟨d1, d2⟩ | ⟨d1, d2, d3⟩
        all_goals
          go_enter Tryd.func82, Tryd.ntmps82
          go_wp2_with fail
          go_ret
          rw [HL.out]
          exact ⟨rfl, (Kp.refl w).alloc _⟩
    · have HL := Lib.hid (len0 k n m kid k1 k2 k3 k4)
      have d1 : (k == 1) = false := by simpa using k1
      have d2 : (k == 2) = false := by simpa using k2
      have d3 : (k == 3) = false := by simpa using k3
      have d4 : (k == 4) = false := by simpa using k4
      go_enter Tryd.func82, Tryd.ntmps82
      go_wp2_with fail
      go_ret
      rw [HL.out]
      exact ⟨rfl, (Kp.refl w).alloc _⟩
set_option maxRecDepth 100000 in
set_option maxHeartbeats 1000000 in
theorem rLength_any (T : Tr) (v : Value) (w : World) (hT : OIn w T v) : Calls Tryd.prog 58 #[v] w fun e w' => e = .returned (.int .i64 T.Len) ∧ Kp w w' := by
  have hp : Hid (∀ w', Kp w w' → Calls Tryd.prog 80 #[v, .int .i64 4096] w' fun e w'' => e = .returned (.int .i64 ((min T.parts (4096 + 1) : Nat) : Int)) ∧ Kp w' w'') := Lib.hid fun (w' : World) (hk : Kp w w') => Parts_any T v 4096 w' (by omega) (hT.kp hk)
  have hd : Hid (∀ w', Kp w w' → Calls Tryd.prog 81 #[v, .int .i64 16] w' fun e w'' => e = .returned (.bool (decide (T.depth ≤ 16))) ∧ Kp w' w'') := Lib.hid fun (w' : World) (hk : Kp w w') => deep_any T v 16 w' (by omega) (hT.kp hk)
  have hl : Hid (∀ w', Kp w w' → Calls Tryd.prog 82 #[v] w' fun e w'' => e = .returned (.int .i64 T.len) ∧ Kp w' w'') := Lib.hid fun (w' : World) (hk : Kp w w') => rlength_any T v w' (hT.kp hk)
  have HL : Hid (T.Len = if T.parts ≤ 4096 ∧ T.depth ≤ 16 then T.len else 0) := Lib.hid rfl
  cases T with
  | nil => exact (OIn.nil hT).elim
  | mk k n m kid =>
    have hT0 := hT
    obtain ⟨o, c, rfl, _, _⟩ := hT0
    clear hT
    have hk0 := (Kp.refl w).alloc (.cells #[.int .i64 k, .int .i64 n, .slice o m c] 28)
    have hb := box3 w (.int .i64 k) (.int .i64 n) (.slice o m c) 28
    generalize (Tr.mk k n m kid).len = len at *
    generalize (Tr.mk k n m kid).Len = Len at *
    generalize (Tr.mk k n m kid).parts = pp at *
    generalize (Tr.mk k n m kid).depth = dd at *
    obtain ⟨x, hx⟩ : ∃ x, min pp (4096 + 1) = x := ⟨_, rfl⟩
    rw [hx] at hp
    by_cases hpp : 4096 < x
    · have d1 : decide (4096 < (x : Int)) = true := by simp; omega
      have HN : Hid (Len = 0) := Lib.hid (by rw [HL.out, if_neg (by omega)])
      clear hx
      go_enter Tryd.func58, Tryd.ntmps58
      go_wp2_with (go_at_call 80; (with_reducible refine (hp.out _ hk0).mono ?_); rintro e w1 ⟨rfl, hk1⟩)
      go_ret
      rw [HN.out]
      exact ⟨rfl, hk0.trans hk1⟩
    · have d1 : decide (4096 < (x : Int)) = false := by simp; omega
      by_cases hdd : dd ≤ 16
      · rw [decide_eq_true hdd] at hd
        have HN : Hid (Len = len) := Lib.hid (by rw [HL.out, if_pos (by omega)])
        clear hx hdd
        go_enter Tryd.func58, Tryd.ntmps58
        go_wp2_with (first
          | (go_at_call 80; (with_reducible refine (hp.out _ hk0).mono ?_); rintro e w1 ⟨rfl, hk1⟩; have r1 := hk1.later hb.1; have r2 := hk1.later hb.2.1; have r3 := hk1.later hb.2.2; have hk01 := hk0.trans hk1)
          | (go_at_call 81; (with_reducible refine (hd.out _ hk01).mono ?_); rintro e w2 ⟨rfl, hk2⟩; have s1 := hk2.later r1; have s2 := hk2.later r2; have s3 := hk2.later r3; have hk02 := hk01.trans hk2)
          | (go_at_call 82; (with_reducible refine (hl.out _ hk02).mono ?_); rintro e w3 ⟨rfl, hk3⟩))
        go_ret
        rw [HN.out]
        exact ⟨rfl, hk02.trans hk3⟩
      · rw [decide_eq_false hdd] at hd
        have HN : Hid (Len = 0) := Lib.hid (by rw [HL.out, if_neg (by omega)])
        clear hx hdd
        go_enter Tryd.func58, Tryd.ntmps58
        go_wp2_with (first
          | (go_at_call 80; (with_reducible refine (hp.out _ hk0).mono ?_); rintro e w1 ⟨rfl, hk1⟩; have r1 := hk1.later hb.1; have r2 := hk1.later hb.2.1; have r3 := hk1.later hb.2.2; have hk01 := hk0.trans hk1)
          | (go_at_call 81; (with_reducible refine (hd.out _ hk01).mono ?_); rintro e w2 ⟨rfl, hk2⟩; have hk02 := hk01.trans hk2))
        go_ret
        rw [HN.out]
        exact ⟨rfl, hk02⟩
set_option maxRecDepth 100000 in
set_option maxHeartbeats 1000000 in
theorem rCheck_any (T : Tr) (v : Value) (w : World) (hT : OIn w T v) : Calls Tryd.prog 35 #[v] w fun e w' => e = .returned (.int .i64 (if T.Len = 0 then 8 else 0)) ∧ Kp w w' := by
  have hl : Hid (∀ w', Kp w w' → Calls Tryd.prog 58 #[v] w' fun e w'' => e = .returned (.int .i64 T.Len) ∧ Kp w' w'') := Lib.hid fun (w' : World) (hk : Kp w w') => rLength_any T v w' (hT.kp hk)
  cases T with
  | nil => exact (OIn.nil hT).elim
  | mk k n m kid =>
    have hT0 := hT
    obtain ⟨o, c, rfl, _, _⟩ := hT0
    clear hT
    have hk0 := (Kp.refl w).alloc (.cells #[.int .i64 k, .int .i64 n, .slice o m c] 28)
    generalize (Tr.mk k n m kid).Len = Len at *
    by_cases h : Len = 0
    · rw [if_pos h]
      have d : (Len == 0) = true := by simpa using h
      clear h
      go_enter Tryd.func35, Tryd.ntmps35
      go_wp2_with (go_at_call 58; (with_reducible refine (hl.out _ hk0).mono ?_); rintro e w1 ⟨rfl, hk1⟩)
      go_ret
      exact ⟨rfl, hk0.trans hk1⟩
    · rw [if_neg h]
      have d : (Len == 0) = false := by simpa using h
      clear h
      go_enter Tryd.func35, Tryd.ntmps35
      go_wp2_with (go_at_call 58; (with_reducible refine (hl.out _ hk0).mono ?_); rintro e w1 ⟨rfl, hk1⟩)
      go_ret
      exact ⟨rfl, hk0.trans hk1⟩
end Go.Proofs.YtgjlldapnodfbaaDoor
