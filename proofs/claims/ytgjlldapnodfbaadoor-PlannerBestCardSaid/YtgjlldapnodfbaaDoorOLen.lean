/-
  The walks of order's walker, Length and Check.
-/
import Derived.Test.YtgjlldapnodfbaaDoorOIn
import Derived.Deep.DeepCutAuto
import Derived.Deep.CutBlock
import Derived.Deep.RegionHeld3
namespace Go.Proofs.YtgjlldapnodfbaaDoor
open Go Go.RowKit Go.Fl Go.Ord

/-- What was there stays, but for block bw. -/
structure Kb (bw : Nat) (w w' : World) : Prop where
  os : w'.os = w.os
  tape : w'.tape = w.tape
  output : w'.output = w.output
  size : w.heap.size ≤ w'.heap.size
  block : ∀ k, k < w.heap.size → k ≠ bw → w'.heap[k]? = w.heap[k]?
theorem Kb.refl (bw : Nat) (w : World) : Kb bw w w := ⟨rfl, rfl, rfl, Nat.le_refl _, fun _ _ _ => rfl⟩
theorem Kb.trans {bw : Nat} {a b c : World} (h : Kb bw a b) (k : Kb bw b c) : Kb bw a c :=
  ⟨k.os.trans h.os, k.tape.trans h.tape, k.output.trans h.output, Nat.le_trans h.size k.size, fun j hj hb => (k.block j (Nat.lt_of_lt_of_le hj h.size) hb).trans (h.block j hj hb)⟩
theorem Kb.of {bw : Nat} {a b : World} (h : Kp a b) : Kb bw a b := ⟨h.os, h.tape, h.output, h.size, fun k hk _ => h.block k hk⟩
theorem Kb.kp {bw : Nat} {a b c : World} (h : Kb bw a b) (k : Kp b c) : Kb bw a c := h.trans (.of k)
theorem Kb.setCell {bw : Nat} {a b : World} (h : Kb bw a b) (v : Value) : Kb bw a (b.setCell ⟨bw, 0, none⟩ v) :=
  ⟨h.os, h.tape, h.output, by simpa using h.size, fun k hk hb => (Below.heap_setCell b ⟨bw, 0, none⟩ v k hb).trans (h.block k hk hb)⟩
theorem Kb.cell {bw : Nat} {w w' : World} (h : Kb bw w w') {p : Addr} (hp : p.block < w.heap.size) (hb : p.block ≠ bw) : w'.cell? p = w.cell? p := World.cell?_of_block (h.block p.block hp hb)
/-- Seen from a world in which the block was not there yet. -/
theorem Kb.up {bw : Nat} {w0 w w' : World} (h : Kb bw w w') (k : Kp w0 w) (hb : w0.heap.size ≤ bw) : Kp w0 w' :=
  ⟨h.os.trans k.os, h.tape.trans k.tape, h.output.trans k.output, Nat.le_trans k.size h.size, fun j hj => (h.block j (Nat.lt_of_lt_of_le hj k.size) (by omega)).trans (k.block j hj)⟩
/-- The walker lies there. -/
def WI (w : World) (bw : Nat) (p : Int) : Prop := w.heap[bw]? = some (.cells #[.int .i64 p] 77 (0, 0))
theorem WI.lt {w : World} {bw : Nat} {b : Int} (h : WI w bw b) : bw < w.heap.size := (Array.getElem?_eq_some_iff.1 h).1
theorem WI.kp {w w' : World} {bw : Nat} {b : Int} (h : WI w bw b) (k : Kp w w') : WI w' bw b := (k.block bw h.lt).trans h
theorem WI.cell {w : World} {bw : Nat} {b : Int} (h : WI w bw b) : w.cell? ⟨bw, 0, none⟩ = some (.int .i64 b) := by simp [World.cell?, show w.heap[bw]? = _ from h]
theorem WI.frozen {w : World} {bw : Nat} {b : Int} (h : WI w bw b) : w.frozen? ⟨bw, 0, none⟩ = false := by simp [World.frozen?, show w.heap[bw]? = _ from h]
theorem WI.set {w : World} {bw : Nat} {b : Int} (h : WI w bw b) (c : Int) : WI (w.setCell ⟨bw, 0, none⟩ (.int .i64 c)) bw c := by
  unfold WI at *
  show (w.heap.modify bw _)[bw]? = _
  obtain ⟨hlt, h'⟩ := Array.getElem?_eq_some_iff.1 h
  rw [Array.getElem?_eq_getElem (by rw [Array.size_modify]; exact hlt), Array.getElem_modify_self, h']
  rfl

/-- What the walker's call does. -/
def WLen (T : Tr) : Prop := ∀ (v : Value) (p d bw : Nat) (w0 w : World), p ≤ 4096 → d ≤ 17 → OIn w0 T v → Kp w0 w → w0.heap.size ≤ bw → WI w bw p →
  Calls Tryd.prog 37 #[.pointer (some ⟨bw, 0, none⟩), v, .int .i64 d] w fun e w' => e = .returned (.int .i64 (T.wl p d).1) ∧ WI w' bw (T.wl p d).2 ∧ Kb bw w w'
theorem wl_stop (k n : Int) (m : Nat) (kid : Nat → Tr) (p d : Nat) (h : 4096 < p + 1 ∨ 16 < d) : (Tr.mk k n m kid).wl p d = (0, p + 1) := by unfold Tr.wl; rw [if_pos h]

set_option maxRecDepth 100000 in
set_option maxHeartbeats 2000000 in
theorem wlen_any (T : Tr) : WLen T := by
  induction T with
  | nil => unfold WLen; intros; exact (OIn.nil (by assumption)).elim
  | mk k n m kid ih =>
    intro v p d bw w0 w hp hd hT hk0 hbw hwi
    have hT0 := hT
    obtain ⟨o, c, rfl, ⟨hm, n0, n1⟩, _⟩ := hT0
    have HT := Lib.hid hT
    have HI := Lib.hid ih
    clear hT ih
    have hlt := hwi.lt
    have q0 := hwi.cell
    have f0 := hwi.frozen
    have ep : (p : Int) + 1 = ((p + 1 : Nat) : Int) := by omega
    have HS : Hid (WI ((w.setCell ⟨bw, 0, none⟩ (.int .i64 ((p : Int) + 1))).alloc (.cells #[.int .i64 k, .int .i64 n, .slice o m c] 28)) bw ((p : Int) + 1) ∧ Kb bw w ((w.setCell ⟨bw, 0, none⟩ (.int .i64 ((p : Int) + 1))).alloc (.cells #[.int .i64 k, .int .i64 n, .slice o m c] 28))) :=
      Lib.hid ⟨(hwi.set _).kp ((Kp.refl _).alloc _), ((Kb.refl bw w).setCell _).kp ((Kp.refl _).alloc _)⟩
    have EP := Lib.hid ep
    clear ep
    by_cases hg : 4096 < p + 1 ∨ 16 < d
    · have HW := Lib.hid (wl_stop k n m kid p d hg)
      have key : (decide (4096 < (p : Int) + 1) = true) ∨ (decide (4096 < (p : Int) + 1) = false ∧ decide (16 < (d : Int)) = true) := by simp; omega
      clear hg
      rcases key with d1 | ⟨d1, d2⟩
      all_goals
        go_enter Tryd.func37, Tryd.ntmps37
        go_wp2_with fail
        go_ret
        rw [HW.out]
        exact ⟨rfl, by rw [← EP.out]; exact HS.out.1, HS.out.2⟩
    have d1 : decide (4096 < (p : Int) + 1) = false := by simp; omega
    have d2 : decide (16 < (d : Int)) = false := by simp; omega
    have d1' : ¬ (4096 < (p : Int) + 1) := by omega
    have d2' : ¬ (16 < (d : Int)) := by omega
    go_enter Tryd.func37, Tryd.ntmps37
    go_upto_region 4 with fail
    have hb := box3 (w.setCell ⟨bw, 0, none⟩ (.int .i64 ((p : Int) + 1))) (.int .i64 k) (.int .i64 n) (.slice o m c) 28
    rw [World.size_setCell] at hb
    obtain ⟨hW1, hK1⟩ := HS.out
    rw [EP.out] at hW1 hK1 hb ⊢
    generalize (w.setCell ⟨bw, 0, none⟩ (.int .i64 ((p + 1 : Nat) : Int))).alloc (.cells #[.int .i64 k, .int .i64 n, .slice o m c] 28) = W1 at *
    obtain ⟨c1, c2, c3⟩ := hb
    have hB : w.heap.size ≠ bw := by omega
    have hBW : w.heap.size < W1.heap.size := World.block_lt_of_cell? _ _ c1
    obtain ⟨B, hBe⟩ : ∃ B, w.heap.size = B := ⟨_, rfl⟩
    rw [hBe] at c1 c2 c3 hB hBW
    simp only [hBe]
    have hup := hK1.up hk0 hbw
    clear d1 d2 d1' d2' HS q0 f0 hBe
    by_cases k1 : k = 1
    · subst k1
      have HW := Lib.hid (wl1 n m kid p d hg)
      by_cases hm0 : m = 0
      · have b0 : ((m : Int) == 0) = true := by simp [hm0]
        have HM := Lib.hid hm0
        clear hm0
        go_wp2_with fail
        all_goals go_ret
        all_goals rw [HW.out]
        all_goals have hm0 := HM.out
        all_goals first
          | (rw [if_pos (by omega)]; exact ⟨rfl, hW1, hK1⟩)
          | (rw [if_neg (by omega)]; exact ⟨rfl, hW1, hK1⟩)
      · have b0 : ((m : Int) == 0) = false := by simp [hm0]
        have HM := Lib.hid hm0
        clear hm0
        go_wp2_with fail
        all_goals go_ret
        all_goals rw [HW.out]
        all_goals have hm0 := HM.out
        all_goals (rw [if_neg (by omega)]; exact ⟨rfl, hW1, hK1⟩)
    by_cases k2 : k = 2
    · subst k2
      have HW := Lib.hid (wl2 n m kid p d hg)
      by_cases hm0 : m = 0
      · have b0 : ((m : Int) == 0) = true := by simp [hm0]
        have HM := Lib.hid hm0
        clear hm0
        go_wp2_with fail
        all_goals go_ret
        all_goals rw [HW.out]
        all_goals have hm0 := HM.out
        all_goals first
          | (rw [if_pos (by omega)]; exact ⟨rfl, hW1, hK1⟩)
          | (rw [if_neg (by omega)]; exact ⟨rfl, hW1, hK1⟩)
      · have b0 : ((m : Int) == 0) = false := by simp [hm0]
        have HM := Lib.hid hm0
        clear hm0
        go_wp2_with fail
        all_goals go_ret
        all_goals rw [HW.out]
        all_goals have hm0 := HM.out
        all_goals (rw [if_neg (by omega)]; exact ⟨rfl, hW1, hK1⟩)
    by_cases k3 : k = 3
    · subst k3
      have HW := Lib.hid (wl3 n m kid p d hg)
      by_cases hc : m = 2 ∧ n = 0
      · obtain ⟨rfl, rfl⟩ := hc
        rw [if_pos ⟨rfl, rfl⟩] at HW
        obtain ⟨g, off, rfl, hgl, hcells⟩ := HT.out.kid rfl (by omega)
        obtain ⟨ka, na, ma, oa, ca, q1, q2, q3, hkid0⟩ := hcells 0 (by omega)
        obtain ⟨kb, nb, mb, ob, cb, q4, q5, q6, hkid1⟩ := hcells 1 (by omega)
        simp only [Nat.zero_mul, Nat.one_mul, Nat.add_zero, Nat.add_assoc, Nat.reduceAdd] at q1 q2 q3 q4 q5 q6
        have ed : ((d + 1 : Nat) : Int) = (d : Int) + 1 := by omega
        have h0 := HI.out 0 _ (p + 1) (d + 1) bw w0 W1 (by omega) (by omega) hkid0 hup hbw hW1
        have g0 := wl_eq (kid 0) (p + 1) (d + 1)
        have h1 := fun (w2 : World) (hl : ((kid 0).wl (p + 1) (d + 1)).2 ≤ 4096) (hw2 : WI w2 bw ((kid 0).wl (p + 1) (d + 1)).2) (hk2 : Kb bw W1 w2) => HI.out 1 _ ((kid 0).wl (p + 1) (d + 1)).2 (d + 1) bw w0 w2 hl (by omega) hkid1 (hk2.up hup hbw) hbw hw2
        have g1 := wl_eq (kid 1) ((kid 0).wl (p + 1) (d + 1)).2 (d + 1)
        rw [ed] at h0 h1
        generalize (kid 1).wl ((kid 0).wl (p + 1) (d + 1)).2 (d + 1) = R2 at *
        generalize (kid 0).wl (p + 1) (d + 1) = R1 at *
        obtain ⟨a0, a1, a2, a3, a4⟩ := g0
        obtain ⟨b0, b1, _, _, _⟩ := g1
        obtain ⟨x1, y1⟩ := R1
        obtain ⟨x2, y2⟩ := R2
        dsimp only at *
        have H0 := Lib.hid h0
        have H1 := Lib.hid h1
        have s1 := hup.later q1
        have s2 := hup.later q2
        have s3 := hup.later q3
        clear hcells hkid0 hkid1 HT HI h0 h1 k1 k2
        by_cases hA : x1 < 2
        · rw [if_pos hA] at HW
          go_wp2_with (go_at_call 37; (with_reducible refine H0.out.mono ?_); rintro e w2 ⟨rfl, hw2, hk2⟩)
          go_ret
          rw [HW.out]
          exact ⟨rfl, hw2, hK1.trans hk2⟩
        · rw [if_neg hA] at HW
          obtain ⟨hxe, hy1, hy2, hde⟩ := a3 (by omega)
          have hy : y1 ≤ 4096 := by omega
          clear hxe hde
          have H1 := Lib.hid fun w2 => H1.out w2 hy
          have HU := Lib.hid (And.intro hup (And.intro hK1 (And.intro hbw (And.intro hB hBW))))
          have HQ := Lib.hid (And.intro q4 (And.intro q5 q6))
          have HC := Lib.hid (And.intro c1 (And.intro c2 c3))
          clear a3 a4 hy hy1 hy2 q4 q5 q6
          obtain ⟨P, hP⟩ : ∃ P, x1 * x2 = P := ⟨_, rfl⟩
          have hP0 : 0 ≤ P := by rw [← hP]; exact Int.mul_nonneg a0 b0
          have hP1 : P ≤ 16384 * 16384 := by rw [← hP]; exact Int.mul_le_mul a1 b1 b0 (by omega)
          rw [hP] at HW
          go_wp2_with (first
            | (go_at_call 37; (with_reducible refine H0.out.mono ?_); rintro e w2 ⟨rfl, hw2, hk2⟩; have u2 := hk2.up HU.out.1 HU.out.2.2.1; have q4 := u2.later HQ.out.1; have q5 := u2.later HQ.out.2.1; have q6 := u2.later HQ.out.2.2; have c3 := (hk2.cell (p := ⟨B, 2, none⟩) HU.out.2.2.2.2 HU.out.2.2.2.1).trans HC.out.2.2; have c1 := (hk2.cell (p := ⟨B, 0, none⟩) HU.out.2.2.2.2 HU.out.2.2.2.1).trans HC.out.1; have c2 := (hk2.cell (p := ⟨B, 1, none⟩) HU.out.2.2.2.2 HU.out.2.2.2.1).trans HC.out.2.1)
            | (go_at_call 37; (with_reducible refine (H1.out _ hw2 hk2).mono ?_); rintro e w3 ⟨rfl, hw3, hk3⟩))
          all_goals go_ret
          all_goals rw [HW.out]
          all_goals first
            | (rw [if_pos (by omega)]; exact ⟨rfl, hw3, (hK1.trans hk2).trans hk3⟩)
            | (rw [if_neg (by omega)]; exact ⟨rfl, hw3, (hK1.trans hk2).trans hk3⟩)
      · rw [if_neg hc] at HW
        have key : (((m : Int) == 2) = false) ∨ (((m : Int) == 2) = true ∧ (n == 0) = false) := by simp; omega
        clear hc
        rcases key with d1 | ⟨d1, d2⟩
        all_goals
          go_wp2_with fail
          go_ret
          rw [HW.out]
          exact ⟨rfl, hW1, hK1⟩
    by_cases k4 : k = 4
    · subst k4
      have HW := Lib.hid (wl4 n m kid p d hg)
      by_cases hc : m = 1 ∧ 2 ≤ n ∧ n ≤ 16384
      · obtain ⟨rfl, e1, e2⟩ := hc
        rw [if_pos ⟨rfl, e1, e2⟩] at HW
        obtain ⟨g, off, rfl, hgl, hcells⟩ := HT.out.kid rfl (by omega)
        obtain ⟨ka, na, ma, oa, ca, q1, q2, q3, hkid0⟩ := hcells 0 (by omega)
        simp only [Nat.zero_mul, Nat.add_zero] at q1 q2 q3
        have ed : ((d + 1 : Nat) : Int) = (d : Int) + 1 := by omega
        have h0 := fun (w' : World) (hk : Kp W1 w') => HI.out 0 _ (p + 1) (d + 1) bw w0 w' (by omega) (by omega) hkid0 (hup.trans hk) hbw (hW1.kp hk)
        have g0 := wl_eq (kid 0) (p + 1) (d + 1)
        rw [ed] at h0
        generalize (kid 0).wl (p + 1) (d + 1) = R1 at *
        obtain ⟨a0, a1, a2, a3, a4⟩ := g0
        obtain ⟨x1, y1⟩ := R1
        dsimp only at *
        have s1 := hup.later q1
        have s2 := hup.later q2
        have s3 := hup.later q3
        have HB : Hid (∀ (w' w2 : World), Kp W1 w' → Kb bw w' w2 → w2.cell? ⟨B, 1, none⟩ = some (.int .i64 n) ∧ w2.cell? ⟨B, 2, none⟩ = some (.slice (some ⟨g, off, none⟩) 1 c) ∧ w2.cell? ⟨g, off, none⟩ = some (.int .i64 ka) ∧ w2.cell? ⟨g, off + 1, none⟩ = some (.int .i64 na) ∧ w2.cell? ⟨g, off + 2, none⟩ = some (.slice oa ma ca)) :=
          Lib.hid fun w' w2 h1 h2 => ⟨(h2.cell (p := ⟨B, 1, none⟩) (Nat.lt_of_lt_of_le hBW h1.size) hB).trans (h1.later c2), (h2.cell (p := ⟨B, 2, none⟩) (Nat.lt_of_lt_of_le hBW h1.size) hB).trans (h1.later c3), (h2.up (hup.trans h1) hbw).later q1, (h2.up (hup.trans h1) hbw).later q2, (h2.up (hup.trans h1) hbw).later q3⟩
        have H0 := Lib.hid h0
        clear hcells hkid0 HT HI h0 k1 k2 k3 a3 a4
        have kd : Kp W1 W1.drew := (Kp.refl W1).drew
        have v1 : IntKind.i64.wrap ((d : Int) + 1) = (d : Int) + 1 := IntWalk.i64_in _ (by omega)
        have v2 : IntKind.i64.wrap (2 * n) = 2 * n := IntWalk.i64_in _ (by omega)
        have v3 : IntKind.i64.wrap (2 * n - 1) = 2 * n - 1 := IntWalk.i64_in _ (by omega)
        go_upto_region 17 with fail
        go_region_held3 (fun w' => w'.cell? ⟨B, 1, none⟩ = some (.int .i64 n) ∧ w'.cell? ⟨B, 2, none⟩ = some (.slice (some ⟨g, off, none⟩) 1 c) ∧ w'.cell? ⟨g, off, none⟩ = some (.int .i64 ka) ∧ w'.cell? ⟨g, off + 1, none⟩ = some (.int .i64 na) ∧ w'.cell? ⟨g, off + 2, none⟩ = some (.slice oa ma ca)) (first | go_keep | exact HB.out _ _ kd hk2) (first | (go_at_call 37; (with_reducible refine (H0.out _ kd).mono ?_); rintro e w2 ⟨rfl, hw2, hk2⟩))
        have hc2 := (HB.out _ _ kd hk2).1
        clear v1 v2 v3
        go_wp2_with fail
        all_goals go_ret
        all_goals rw [HW.out]
        all_goals first
          | (rw [if_pos (by omega)]; exact ⟨rfl, hw2, (hK1.kp kd).trans hk2⟩)
          | (rw [if_neg (by omega)]; exact ⟨rfl, hw2, (hK1.kp kd).trans hk2⟩)
      · rw [if_neg hc] at HW
        have key : (((m : Int) == 1) = false) ∨ (((m : Int) == 1) = true ∧ decide (2 ≤ n) = false) ∨ (((m : Int) == 1) = true ∧ decide (2 ≤ n) = true ∧ decide (n ≤ 16384) = false) := by simp; omega
        clear hc
        rcases key with d1 | ⟨d1, d2⟩ | ⟨d1, d2, d3⟩
        all_goals
          go_wp2_with fail
          go_ret
          rw [HW.out]
          exact ⟨rfl, hW1, hK1⟩
    · have HW := Lib.hid (wl0 k n m kid p d hg k1 k2 k3 k4)
      have d1 : (k == 1) = false := by simpa using k1
      have d2 : (k == 2) = false := by simpa using k2
      have d3 : (k == 3) = false := by simpa using k3
      have d4 : (k == 4) = false := by simpa using k4
      go_wp2_with fail
      go_ret
      rw [HW.out]
      exact ⟨rfl, hW1, hK1⟩

set_option maxRecDepth 100000 in
set_option maxHeartbeats 1000000 in
theorem Length_any (T : Tr) (v : Value) (w : World) (hT : OIn w T v) : Calls Tryd.prog 20 #[v] w fun e w' => e = .returned (.int .i64 T.Len) ∧ Kp w w' := by
  have hk1 : Kp w ((w.alloc (.cells v.cells 28)).alloc (.cells #[.int .i64 0] 77)) := ((Kp.refl w).alloc _).alloc _
  have hw : WI ((w.alloc (.cells v.cells 28)).alloc (.cells #[.int .i64 0] 77)) (w.heap.size + 1) ((0 : Nat) : Int) := by
    have := heap_alloc_new (w.alloc (.cells v.cells 28)) (.cells #[.int .i64 0] 77)
    rw [World.size_alloc] at this
    exact this
  have hc := wlen_any T v 0 1 (w.heap.size + 1) w _ (by omega) (by omega) hT hk1 (by omega) hw
  rw [wl_Len] at hc
  have HC : Hid _ := Lib.hid hc
  clear hw hc
  cases T with
  | nil => exact (OIn.nil hT).elim
  | mk k n m kid =>
    have hT0 := hT
    obtain ⟨o, c, rfl, _, _⟩ := hT0
    clear hT
    generalize (Tr.mk k n m kid).Len = Len at *
    go_enter Tryd.func20, Tryd.ntmps20
    go_wp2_with (go_at_call 37; (refine HC.out.mono ?_); rintro e w2 ⟨rfl, hw2, hk2⟩)
    go_ret
    exact ⟨rfl, hk2.up hk1 (by omega)⟩
set_option maxRecDepth 100000 in
set_option maxHeartbeats 1000000 in
theorem Check_yes (T : Tr) (v : Value) (w : World) (hT : OIn w T v) (h : T.Len ≠ 0) : Calls Tryd.prog 25 #[v] w fun e w' => e = .returned .nilIface ∧ Kp w w' := by
  have hl : Hid (∀ w', Kp w w' → Calls Tryd.prog 20 #[v] w' fun e w'' => e = .returned (.int .i64 T.Len) ∧ Kp w' w'') := Lib.hid fun (w' : World) (hk : Kp w w') => Length_any T v w' (hT.kp hk)
  cases T with
  | nil => exact (OIn.nil hT).elim
  | mk k n m kid =>
    have hT0 := hT
    obtain ⟨o, c, rfl, _, _⟩ := hT0
    clear hT
    have hk0 := (Kp.refl w).alloc (.cells #[.int .i64 k, .int .i64 n, .slice o m c] 28)
    generalize (Tr.mk k n m kid).Len = Len at *
    have d : (Len == 0) = false := by simpa using h
    clear h
    go_enter Tryd.func25, Tryd.ntmps25
    go_wp2_with (go_at_call 20; (with_reducible refine (hl.out _ hk0).mono ?_); rintro e w1 ⟨rfl, hk1⟩)
    go_ret
    exact ⟨rfl, hk0.trans hk1⟩
set_option maxRecDepth 100000 in
set_option maxHeartbeats 1000000 in
theorem Check_no (T : Tr) (v : Value) (aO : Addr) (w : World) (hT : OIn w T v) (h : T.Len = 0) (hO : errAt w 2 aO) : Calls Tryd.prog 25 #[v] w fun e w' => e = .returned (.iface 114 (.pointer (some aO))) ∧ Kp w w' := by
  have hl : Hid (∀ w', Kp w w' → Calls Tryd.prog 20 #[v] w' fun e w'' => e = .returned (.int .i64 T.Len) ∧ Kp w' w'') := Lib.hid fun (w' : World) (hk : Kp w w') => Length_any T v w' (hT.kp hk)
  have HO := Lib.hid hO
  clear hO
  cases T with
  | nil => exact (OIn.nil hT).elim
  | mk k n m kid =>
    have hT0 := hT
    obtain ⟨o, c, rfl, _, _⟩ := hT0
    clear hT
    have hk0 := (Kp.refl w).alloc (.cells #[.int .i64 k, .int .i64 n, .slice o m c] 28)
    generalize (Tr.mk k n m kid).Len = Len at *
    have d : (Len == 0) = true := by simpa using h
    clear h
    go_enter Tryd.func25, Tryd.ntmps25
    go_wp2_with (go_at_call 20; (with_reducible refine (hl.out _ hk0).mono ?_); rintro e w1 ⟨rfl, hk1⟩; have c1 := (hk0.trans hk1).later HO.out)
    go_ret
    exact ⟨rfl, hk0.trans hk1⟩
end Go.Proofs.YtgjlldapnodfbaaDoor
