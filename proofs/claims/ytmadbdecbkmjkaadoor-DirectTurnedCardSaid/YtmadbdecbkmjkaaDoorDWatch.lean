/-
  The walks of timbrecalm's Watch: what it sees is calm, or it is wild.
-/
import Derived.Test.YtmadbdecbkmjkaaDoorDCalm2
import Derived.Test.YtmadbdecbkmjkaaDoorDRef
namespace Go.Proofs.YtmadbdecbkmjkaaDoor
open Go Go.RowKit Go.Fl Go.Roots Go.Calm

/-- What was there stays, but for block bw. -/
structure Kb (bw : Nat) (w w' : World) : Prop where
  os : w'.os = w.os
  tape : w'.tape = w.tape
  output : w'.output = w.output
  size : w.heap.size ≤ w'.heap.size
  block : ∀ k, k < w.heap.size → k ≠ bw → w'.heap[k]? = w.heap[k]?
theorem Kb.refl (bw : Nat) (w : World) : Kb bw w w := ⟨rfl, rfl, rfl, Nat.le_refl _, fun _ _ _ => rfl⟩
theorem Kb.trans {bw : Nat} {a b c : World} (h : Kb bw a b) (k : Kb bw b c) : Kb bw a c :=
  ⟨k.os.trans h.os, k.tape.trans h.tape, k.output.trans h.output, Nat.le_trans h.size k.size, fun j hj hb => (k.block j (Nat.lt_of_lt_of_le hj h.size) hb).trans (h.block j hj hb)⟩
theorem Kb.of {bw : Nat} {a b : World} (h : Kp a b) : Kb bw a b := ⟨h.os, h.tape, h.output, h.size, fun k hk _ => h.block k hk⟩
theorem Kb.kp {bw : Nat} {a b c : World} (h : Kb bw a b) (k : Kp b c) : Kb bw a c := h.trans (.of k)
theorem Kb.setCell {bw : Nat} {a b : World} (h : Kb bw a b) (v : Value) : Kb bw a (b.setCell ⟨bw, 0, none⟩ v) :=
  ⟨h.os, h.tape, h.output, by simpa using h.size, fun k hk hb => (Below.heap_setCell b ⟨bw, 0, none⟩ v k hb).trans (h.block k hk hb)⟩
theorem Kb.cell {bw : Nat} {w w' : World} (h : Kb bw w w') {p : Addr} (hp : p.block < w.heap.size) (hb : p.block ≠ bw) : w'.cell? p = w.cell? p := World.cell?_of_block (h.block p.block hp hb)
theorem Has.kb {bw : Nat} {w w' : World} {g n : Nat} {f : Nat → Nat × Nat} (h : Has w g n f) (k : Kb bw w w') (hg : g < w.heap.size) (hne : g ≠ bw) : Has w' g n f := fun j hj => by
  obtain ⟨c, s, h1, h2⟩ := h j hj
  exact ⟨c, s, (k.cell (p := ⟨g, j, none⟩) hg hne).trans h1, h2⟩
/-- The watch lies there. -/
def WB (w : World) (bw : Nat) (b : Bool) : Prop := w.heap[bw]? = some (.cells #[.bool b] 78 (0, 0))
theorem WB.lt {w : World} {bw : Nat} {b : Bool} (h : WB w bw b) : bw < w.heap.size := (Array.getElem?_eq_some_iff.1 h).1
theorem WB.kp {w w' : World} {bw : Nat} {b : Bool} (h : WB w bw b) (k : Kp w w') : WB w' bw b := (k.block bw h.lt).trans h
theorem WB.cell {w : World} {bw : Nat} {b : Bool} (h : WB w bw b) : w.cell? ⟨bw, 0, none⟩ = some (.bool b) := by simp [World.cell?, show w.heap[bw]? = _ from h]
theorem WB.frozen {w : World} {bw : Nat} {b : Bool} (h : WB w bw b) : w.frozen? ⟨bw, 0, none⟩ = false := by simp [World.frozen?, show w.heap[bw]? = _ from h]
theorem WB.set {w : World} {bw : Nat} {b : Bool} (h : WB w bw b) (c : Bool) : WB (w.setCell ⟨bw, 0, none⟩ (.bool c)) bw c := by
  unfold WB at *
  show (w.heap.modify bw _)[bw]? = _
  obtain ⟨hlt, h'⟩ := Array.getElem?_eq_some_iff.1 h
  rw [Array.getElem?_eq_getElem (by rw [Array.size_modify]; exact hlt), Array.getElem_modify_self, h']
  rfl
/-- The watch behind a call: wild, or not, and then it was not ahead of it, and P holds. -/
def WP (w w' : World) (bw : Nat) (b : Bool) (P : Prop) : Prop := (∃ b', WB w' bw b' ∧ (b' = false → b = false ∧ P)) ∧ Kb bw w w'

theorem bool_not_true {b : Bool} (h : ¬ b = true) : b = false := by simpa using h
set_option maxRecDepth 100000 in
set_option maxHeartbeats 400000 in
theorem See_any (bw : Nat) (b : Bool) (f : Nat) (w : World) (hw : WB w bw b) :
    Calls Tryd.prog 54 #[.pointer (some ⟨bw, 0, none⟩), .float .f64 f] w fun e w' => e = .returned (.float .f64 f) ∧ WP w w' bw b (calmP (cn f)) := by
  have e0 := cn_0
  have eL : cn 553942754166571008 = LOW := by decide +kernel
  have eH : cn 8660422083433463808 = HIGH := by decide +kernel
  have q1 := hw.cell
  have q2 := hw.frozen
  have HW := Lib.hid hw
  clear hw
  by_cases t1 : (ord (cn f) 0 == some .lt) = true
  · have HA : Hid (((ord (neg (cn f)) 0 == some .eq) || ((ord (neg (cn f)) LOW == some .gt || ord (neg (cn f)) LOW == some .eq) && (ord (neg (cn f)) HIGH == some .lt || ord (neg (cn f)) HIGH == some .eq))) = true → calmP (cn f)) := Lib.hid fun h => by
      unfold calmP calmB ab; rw [if_pos t1]; exact h
    go_enter Tryd.func54, Tryd.ntmps54
    go_wp2_with fail
    all_goals go_ret
    all_goals first
      | exact ⟨rfl, ⟨true, HW.out.set true, fun h => by cases h⟩, (Kb.refl bw w).setCell _⟩
      | exact ⟨rfl, ⟨b, HW.out, fun h => ⟨h, HA.out (by clear HA HW q1 q2 eL eH e0; simp_all)⟩⟩, Kb.refl bw w⟩
  · have HA : Hid (((ord (cn f) 0 == some .eq) || ((ord (cn f) LOW == some .gt || ord (cn f) LOW == some .eq) && (ord (cn f) HIGH == some .lt || ord (cn f) HIGH == some .eq))) = true → calmP (cn f)) := Lib.hid fun h => by
      unfold calmP calmB ab; rw [if_neg t1]; exact h
    have t1 := bool_not_true t1
    go_enter Tryd.func54, Tryd.ntmps54
    go_wp2_with fail
    all_goals go_ret
    all_goals first
      | exact ⟨rfl, ⟨true, HW.out.set true, fun h => by cases h⟩, (Kb.refl bw w).setCell _⟩
      | exact ⟨rfl, ⟨b, HW.out, fun h => ⟨h, HA.out (by clear HA HW q1 q2 eL eH e0; simp_all)⟩⟩, Kb.refl bw w⟩
theorem WP.trans {w a c : World} {bw : Nat} {b : Bool} {P Q : Prop} (h : WP w a bw b P) (k : ∀ b', WB a bw b' → WP a c bw b' Q) : WP w c bw b (P ∧ Q) := by
  obtain ⟨⟨b1, h1, h2⟩, h3⟩ := h
  obtain ⟨⟨b2, k1, k2⟩, k3⟩ := k b1 h1
  exact ⟨⟨b2, k1, fun e => by obtain ⟨e1, q⟩ := k2 e; obtain ⟨e2, p⟩ := h2 e1; exact ⟨e2, p, q⟩⟩, h3.trans k3⟩
theorem WP.imp {w a : World} {bw : Nat} {b : Bool} {P Q : Prop} (h : WP w a bw b P) (k : P → Q) : WP w a bw b Q := by
  obtain ⟨⟨b1, h1, h2⟩, h3⟩ := h
  exact ⟨⟨b1, h1, fun e => ⟨(h2 e).1, k (h2 e).2⟩⟩, h3⟩
theorem WP.kp {w a c : World} {bw : Nat} {b : Bool} {P : Prop} (h : WP w a bw b P) (k : Kp a c) : WP w c bw b P := by
  obtain ⟨⟨b1, h1, h2⟩, h3⟩ := h
  exact ⟨⟨b1, h1.kp k, h2⟩, h3.kp k⟩
theorem WP.first {w a c : World} {bw : Nat} {b : Bool} {P : Prop} (k : Kp w a) (h : WP a c bw b P) : WP w c bw b P := ⟨h.1, (Kb.of k).trans h.2⟩
set_option maxRecDepth 100000 in
set_option maxHeartbeats 400000 in
theorem SeeC_any (bw : Nat) (b : Bool) (x y : Nat) (w : World) (hw : WB w bw b) :
    Calls Tryd.prog 44 #[.pointer (some ⟨bw, 0, none⟩), .complex .f64 x y] w fun e w' => e = .returned (.complex .f64 x y) ∧ WP w w' bw b (seeC (cn x, cn y)) := by
  go_enter Tryd.func44, Tryd.ntmps44
  go_wp2_with (first
    | (go_at_call 54; (with_reducible refine (See_any bw b x _ hw).mono ?_); rintro e w1 ⟨rfl, ⟨b1, hb1, hp1⟩, hk1⟩; have H1 := Lib.hid hp1; clear hp1)
    | (go_at_call 54; (with_reducible refine (See_any bw b1 y _ hb1).mono ?_); rintro e w2 ⟨rfl, ⟨b2, hb2, hp2⟩, hk2⟩; have H2 := Lib.hid hp2; clear hp2))
  go_ret
  exact ⟨rfl, ⟨b2, hb2, fun h => ⟨(H1.out (H2.out h).1).1, (H1.out (H2.out h).1).2, (H2.out h).2⟩⟩, hk1.trans hk2⟩
set_option maxRecDepth 100000 in
set_option maxHeartbeats 400000 in
theorem WSum_any (bw : Nat) (b : Bool) (x y : Nat) (w : World) (hw : WB w bw b) :
    Calls Tryd.prog 66 #[.pointer (some ⟨bw, 0, none⟩), .float .f64 x, .float .f64 y] w fun e w' => ∃ r, e = .returned (.float .f64 r) ∧ cn r = add (cn x) (cn y) ∧ WP w w' bw b (sumP (cn x) (cn y)) := by
  go_enter Tryd.func66, Tryd.ntmps66
  go_wp2_with (first
    | ((with_reducible apply wpList_fl .add rfl); exact rfl; exact rfl; intro r1 m1 hr1)
    | (go_at_call 54; (with_reducible refine (See_any bw b r1 _ (hw.kp ((Kp.refl w).drewN _))).mono ?_); rintro e w1 ⟨rfl, ⟨b1, hb1, hp1⟩, hk1⟩))
  go_ret
  refine ⟨_, rfl, hr1, ⟨b1, hb1, fun h => ?_⟩, (Kb.of ((Kp.refl w).drewN _)).trans hk1⟩
  have h2 := hp1 h
  rw [hr1] at h2
  exact h2
set_option maxRecDepth 100000 in
set_option maxHeartbeats 400000 in
theorem WLess_any (bw : Nat) (b : Bool) (x y : Nat) (w : World) (hw : WB w bw b) :
    Calls Tryd.prog 65 #[.pointer (some ⟨bw, 0, none⟩), .float .f64 x, .float .f64 y] w fun e w' => ∃ r, e = .returned (.float .f64 r) ∧ cn r = sub (cn x) (cn y) ∧ WP w w' bw b (lessP (cn x) (cn y)) := by
  go_enter Tryd.func65, Tryd.ntmps65
  go_wp2_with (first
    | ((with_reducible apply wpList_fl .sub rfl); exact rfl; exact rfl; intro r1 m1 hr1)
    | (go_at_call 54; (with_reducible refine (See_any bw b r1 _ (hw.kp ((Kp.refl w).drewN _))).mono ?_); rintro e w1 ⟨rfl, ⟨b1, hb1, hp1⟩, hk1⟩))
  go_ret
  refine ⟨_, rfl, hr1, ⟨b1, hb1, fun h => ?_⟩, (Kb.of ((Kp.refl w).drewN _)).trans hk1⟩
  have h2 := hp1 h
  rw [hr1] at h2
  exact h2
set_option maxRecDepth 100000 in
set_option maxHeartbeats 400000 in
theorem Product_any (bw : Nat) (b : Bool) (x y : Nat) (w : World) (hw : WB w bw b) :
    Calls Tryd.prog 64 #[.pointer (some ⟨bw, 0, none⟩), .float .f64 x, .float .f64 y] w fun e w' => ∃ r, e = .returned (.float .f64 r) ∧ cn r = mul (cn x) (cn y) ∧ WP w w' bw b (prodP (cn x) (cn y)) := by
  have e0 := cn_0
  have q1 := hw.cell
  have q2 := hw.frozen
  go_enter Tryd.func64, Tryd.ntmps64
  go_wp2_with (first
    | ((with_reducible apply wpList_fl .mul rfl); exact rfl; exact rfl; intro r1 m1 hr1)
    | (go_at_call 54; (with_reducible refine (See_any bw b r1 _ (hw.kp ((Kp.refl w).drewN _))).mono ?_); rintro e w1 ⟨rfl, ⟨b1, hb1, hp1⟩, hk1⟩)
    | (go_at_call 54; (with_reducible refine (See_any bw true r1 _ ((hw.kp ((Kp.refl w).drewN _)).set true)).mono ?_); rintro e w1 ⟨rfl, ⟨b1, hb1, hp1⟩, hk1⟩))
  all_goals go_ret
  all_goals first
    | exact ⟨_, rfl, hr1, ⟨b1, hb1, fun h => by cases (hp1 h).1⟩, ((Kb.of ((Kp.refl w).drewN _)).setCell _).trans hk1⟩
    | (refine ⟨_, rfl, hr1, ⟨b1, hb1, fun h => ⟨(hp1 h).1, ?_, ?_⟩⟩, (Kb.of ((Kp.refl w).drewN _)).trans hk1⟩
       · have h2 := (hp1 h).2
         rw [hr1] at h2
         exact h2
       · show (ord (cn x) 0 == some .eq) = true ∨ (ord (cn y) 0 == some .eq) = true ∨ (ord (fl .mul (cn x) (cn y)) 0 == some .eq) = false
         clear hp1 hk1 hb1 hw hr1 q1 q2
         simp_all)

set_option maxRecDepth 100000 in
set_option maxHeartbeats 400000 in
theorem WMul_any (bw : Nat) (b : Bool) (p q r s : Nat) (w : World) (hw : WB w bw b) :
    Calls Tryd.prog 55 #[.pointer (some ⟨bw, 0, none⟩), .complex .f64 p q, .complex .f64 r s] w fun e w' => ∃ x y, e = .returned (.complex .f64 x y) ∧ cn x = (cmul (cn p, cn q) (cn r, cn s)).1 ∧ cn y = (cmul (cn p, cn q) (cn r, cn s)).2 ∧ WP w w' bw b (mulC (cn p, cn q) (cn r, cn s)) := by
  go_enter Tryd.func55, Tryd.ntmps55
  go_wp2_with (first
    | (go_at_call 64; (with_reducible refine (Product_any bw b p r _ hw).mono ?_); rintro e w1 ⟨x1, rfl, hx1, ⟨b1, hb1, hp1⟩, hk1⟩; have H1 := Lib.hid hp1; clear hp1)
    | (go_at_call 64; (with_reducible refine (Product_any bw b1 q s _ hb1).mono ?_); rintro e w2 ⟨x2, rfl, hx2, ⟨b2, hb2, hp2⟩, hk2⟩; have H2 := Lib.hid hp2; clear hp2)
    | (go_at_call 64; (with_reducible refine (Product_any bw b2 p s _ hb2).mono ?_); rintro e w3 ⟨x3, rfl, hx3, ⟨b3, hb3, hp3⟩, hk3⟩; have H3 := Lib.hid hp3; clear hp3)
    | (go_at_call 64; (with_reducible refine (Product_any bw b3 q r _ hb3).mono ?_); rintro e w4 ⟨x4, rfl, hx4, ⟨b4, hb4, hp4⟩, hk4⟩; have H4 := Lib.hid hp4; clear hp4)
    | (go_at_call 65; (with_reducible refine (WLess_any bw b4 x1 x2 _ hb4).mono ?_); rintro e w5 ⟨x5, rfl, hx5, ⟨b5, hb5, hp5⟩, hk5⟩; have H5 := Lib.hid hp5; clear hp5)
    | (go_at_call 66; (with_reducible refine (WSum_any bw b5 x3 x4 _ hb5).mono ?_); rintro e w6 ⟨x6, rfl, hx6, ⟨b6, hb6, hp6⟩, hk6⟩; have H6 := Lib.hid hp6; clear hp6))
  go_ret
  refine ⟨_, _, rfl, by rw [hx5, hx1, hx2]; rfl, by rw [hx6, hx3, hx4]; rfl, ⟨b6, hb6, fun h => ?_⟩, ((((hk1.trans hk2).trans hk3).trans hk4).trans hk5).trans hk6⟩
  obtain ⟨h, p6⟩ := H6.out h
  obtain ⟨h, p5⟩ := H5.out h
  obtain ⟨h, p4⟩ := H4.out h
  obtain ⟨h, p3⟩ := H3.out h
  obtain ⟨h, p2⟩ := H2.out h
  obtain ⟨h, p1⟩ := H1.out h
  rw [hx1, hx2] at p5
  rw [hx3, hx4] at p6
  exact ⟨h, p1, p2, p3, p4, p5, p6⟩
set_option maxRecDepth 100000 in
set_option maxHeartbeats 400000 in
theorem WAdd_any (bw : Nat) (b : Bool) (p q r s : Nat) (w : World) (hw : WB w bw b) :
    Calls Tryd.prog 56 #[.pointer (some ⟨bw, 0, none⟩), .complex .f64 p q, .complex .f64 r s] w fun e w' => ∃ x y, e = .returned (.complex .f64 x y) ∧ cn x = (cadd (cn p, cn q) (cn r, cn s)).1 ∧ cn y = (cadd (cn p, cn q) (cn r, cn s)).2 ∧ WP w w' bw b (addC (cn p, cn q) (cn r, cn s)) := by
  go_enter Tryd.func56, Tryd.ntmps56
  go_wp2_with (first
    | (go_at_call 66; (with_reducible refine (WSum_any bw b p r _ hw).mono ?_); rintro e w1 ⟨x1, rfl, hx1, ⟨b1, hb1, hp1⟩, hk1⟩; have H1 := Lib.hid hp1; clear hp1)
    | (go_at_call 66; (with_reducible refine (WSum_any bw b1 q s _ hb1).mono ?_); rintro e w2 ⟨x2, rfl, hx2, ⟨b2, hb2, hp2⟩, hk2⟩; have H2 := Lib.hid hp2; clear hp2))
  go_ret
  refine ⟨_, _, rfl, by rw [hx1]; rfl, by rw [hx2]; rfl, ⟨b2, hb2, fun h => ?_⟩, hk1.trans hk2⟩
  obtain ⟨h, p2⟩ := H2.out h
  obtain ⟨h, p1⟩ := H1.out h
  exact ⟨h, p1, p2⟩
set_option maxRecDepth 100000 in
set_option maxHeartbeats 1000000 in
theorem Watched_any (bw : Nat) (b : Bool) (g n cap k : Nat) (f : Nat → Nat × Nat) (w : World) (n1 : 1 ≤ n) (n2 : n ≤ 1024) (hk : k < n) (hw : WB w bw b) (hf : Has w g n f) (hg : g < w.heap.size) (hne : g ≠ bw) :
    Calls Tryd.prog 45 #[.pointer (some ⟨bw, 0, none⟩), .slice (some ⟨g, 0, none⟩) n cap, .int .i64 k] w fun e w' => (∃ c s, e = .returned (.complex .f64 c s)) ∧ WP w w' bw b (∀ j, 1 ≤ j → j < n → sumC f n k j) := by
  obtain ⟨c0, s0, q0, hc0, hs0⟩ := hf 0 (by omega)
  go_enter Tryd.func45, Tryd.ntmps45
  go_wp2_with fail
  go_loopw [8, 9] (fun s i wr => ∃ (j c d : Nat) (b' : Bool), 1 ≤ j ∧ j ≤ n ∧ s = .complex .f64 c d ∧ i = .int .i64 j ∧ cn c = (acc f n k (j - 1)).1 ∧ cn d = (acc f n k (j - 1)).2 ∧ WB wr bw b' ∧ Hid (b' = false → b = false ∧ ∀ i, 1 ≤ i → i < j → sumC f n k i) ∧ Kb bw w wr) (fun _ i _ => n - (intOf i).toNat)
  case atStart => exact ⟨1, c0, s0, b, by omega, by omega, rfl, rfl, hc0, hs0, hw, Lib.hid fun h => ⟨h, fun i h1 h2 => by omega⟩, Kb.refl _ _⟩
  case round =>
    clear hc0 hs0 q0
    obtain ⟨j, c, d, b', j1, jn, rfl, rfl, hc, hd, hwb, HC, hkb⟩ := hrel
    by_cases hlt : j < n
    · obtain ⟨c1, s1, q1, hc1, hs1⟩ := hf.kb hkb hg hne j hlt
      have em : ((j : Int) % (n : Int)) * ((k : Int) % (n : Int)) % (n : Int) = ((j * k % n : Nat) : Int) := by
        have ej : (j : Int) % (n : Int) = (j : Int) := Int.emod_eq_of_lt (by omega) (by omega)
        have ek : (k : Int) % (n : Int) = (k : Int) := Int.emod_eq_of_lt (by omega) (by omega)
        rw [ej, ek]; exact jq_mod j k n
      have hml : j * k % n < n := Nat.mod_lt _ (by omega)
      have hst : Hid (∀ x y : Nat × Nat, addC (acc f n k (j - 1)) (term f n k j) → (j * k % n ≠ 0 → mulC (f j) (root n ((j * k % n : Nat) : Int))) → sumC f n k j) := Lib.hid fun _ _ h1 h2 => ⟨h2, h1⟩
      have hacc : Hid (acc f n k j = cadd (acc f n k (j - 1)) (term f n k j)) := Lib.hid (acc_step f n k j j1)
      by_cases hz : j * k % n = 0
      · have ht := Lib.hid (term_zero f hk hz)
        rw [hz] at em
        have HZ := Lib.hid hz
        clear hz hml
        have HM := Lib.hid em
        clear em
        go_wp2_with (first
          | (go_at_call 49; (refine (prod_any _ _ _ _ (by omega) (by omega)).mono ?_); rintro e w1 ⟨rfl, rfl⟩; rw [HM.out])
          | (go_at_call 56; (with_reducible refine (WAdd_any bw b' c d c1 s1 _ hwb).mono ?_); rintro e w2 ⟨x2, y2, rfl, hx2, hy2, ⟨b2, hb2, hp2⟩, hk2⟩; have H2 := Lib.hid hp2; clear hp2))
        have HC2 : Hid (b2 = false → b = false ∧ ∀ i, 1 ≤ i → i < j + 1 → sumC f n k i) := Lib.hid fun h => by
          obtain ⟨h, p⟩ := H2.out h
          obtain ⟨h, p0⟩ := HC.out h
          refine ⟨h, fun i h1 h2 => ?_⟩
          by_cases hij : i < j
          · exact p0 i h1 hij
          · obtain rfl : i = j := by omega
            refine hst.out (0, 0) (0, 0) ?_ (fun h3 => absurd HZ.out h3)
            rw [ht.out]
            rw [hc, hd, hc1, hs1] at p
            exact p
        have a1 : cn x2 = (acc f n k (j + 1 - 1)).1 := by rw [Nat.add_sub_cancel, hacc.out, ht.out, hx2, hc, hd, hc1, hs1]
        have a2 : cn y2 = (acc f n k (j + 1 - 1)).2 := by rw [Nat.add_sub_cancel, hacc.out, ht.out, hy2, hc, hd, hc1, hs1]
        go_roundw
        case rel => exact ⟨j + 1, _, _, b2, by omega, by omega, rfl, by go_num, a1, a2, hb2, HC2, hkb.trans hk2⟩
        case measure => simp [intOf]; omega
      · have ht := Lib.hid (term_more f hk hz)
        obtain ⟨e0, he0⟩ : ∃ e0, j * k % n = e0 := ⟨_, rfl⟩
        rw [he0] at em hml ht
        have hz' : ((e0 : Int) != 0) = true := by rw [he0] at hz; simp; omega
        have HE := Lib.hid he0
        have HM := Lib.hid em
        clear em hz he0
        go_wp2_with (first
          | (go_at_call 49; (refine (prod_any _ _ _ _ (by omega) (by omega)).mono ?_); rintro e w1 ⟨rfl, rfl⟩; rw [HM.out])
          | (go_at_call 51; (refine (rRoot_any _ _ _ (by omega) (by omega)).mono ?_); rintro e w3 ⟨c3, s3, rfl, hc3, hs3, hk3⟩; have hwb3 := hwb.kp hk3)
          | (go_at_call 55; (with_reducible refine (WMul_any bw b' c1 s1 c3 s3 _ hwb3).mono ?_); rintro e w4 ⟨x4, y4, rfl, hx4, hy4, ⟨b4, hb4, hp4⟩, hk4⟩; have H4 := Lib.hid hp4; clear hp4)
          | (go_at_call 56; (with_reducible refine (WAdd_any bw b4 c d x4 y4 _ hb4).mono ?_); rintro e w2 ⟨x2, y2, rfl, hx2, hy2, ⟨b2, hb2, hp2⟩, hk2⟩; have H2 := Lib.hid hp2; clear hp2))
        have e4 : (cn x4, cn y4) = term f n k j := by rw [ht.out, hx4, hy4, hc1, hs1, hc3, hs3]
        have HC2 : Hid (b2 = false → b = false ∧ ∀ i, 1 ≤ i → i < j + 1 → sumC f n k i) := Lib.hid fun h => by
          obtain ⟨h, p⟩ := H2.out h
          obtain ⟨h, p4⟩ := H4.out h
          obtain ⟨h, p0⟩ := HC.out h
          refine ⟨h, fun i h1 h2 => ?_⟩
          by_cases hij : i < j
          · exact p0 i h1 hij
          · obtain rfl : i = j := by omega
            refine hst.out (0, 0) (0, 0) ?_ (fun h3 => ?_)
            · rw [e4, hc, hd] at p; exact p
            · rw [HE.out]
              rw [hc1, hs1, hc3, hs3] at p4
              exact p4
        have a1 : cn x2 = (acc f n k (j + 1 - 1)).1 := by rw [Nat.add_sub_cancel, hacc.out, hx2, e4, hc, hd]
        have a2 : cn y2 = (acc f n k (j + 1 - 1)).2 := by rw [Nat.add_sub_cancel, hacc.out, hy2, e4, hc, hd]
        go_roundw
        case rel => exact ⟨j + 1, _, _, b2, by omega, by omega, rfl, by go_num, a1, a2, hb2, HC2, ((hkb.kp hk3).trans hk4).trans hk2⟩
        case measure => simp [intOf]; omega
    · obtain rfl : j = n := by omega
      go_wp2_with fail
      go_ret
      exact ⟨⟨c, d, rfl⟩, ⟨b', hwb, HC.out⟩, hkb⟩
end Go.Proofs.YtmadbdecbkmjkaaDoor
