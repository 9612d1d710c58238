/-
  planner.newChooser, Check, Usual, Choose.
-/
import Derived.Test.YtgjlldapnodfbaaDoorOChs
import Derived.Carry
namespace Go.Ord
/-- The butterflies rise, from 2 to 5. -/
def rises : Int → List Int → Bool
  | _, [] => true
  | last, r :: l => decide (last < r ∧ r ≤ 5) && rises r l
def Pol.ok (p : Pol) : Bool := decide (2 ≤ p.D ∧ p.D ≤ 64 ∧ 2 ≤ p.P ∧ p.P ≤ p.D) && rises 1 p.fl
theorem rises_mem : ∀ (l : List Int) (last : Int), rises last l = true → (∀ r ∈ l, last < r ∧ r ≤ 5) ∧ (last ≤ 5 → last + l.length ≤ 5)
  | [], last, _ => ⟨fun _ h => (by cases h), fun h => by simpa using h⟩
  | r :: l, last, h => by
    unfold rises at h
    rw [Bool.and_eq_true, decide_eq_true_eq] at h
    obtain ⟨h1, h2⟩ := h
    obtain ⟨i1, i2⟩ := rises_mem l r h2
    refine ⟨fun x hx => ?_, fun _ => ?_⟩
    · rcases List.mem_cons.1 hx with rfl | hx
      · exact h1
      · have := i1 x hx; omega
    · have := i2 h1.2
      rw [List.length_cons]; omega
theorem Pol.ok_good {p : Pol} (h : p.ok = true) : p.Good := by
  unfold Pol.ok at h
  rw [Bool.and_eq_true, decide_eq_true_eq] at h
  obtain ⟨⟨h1, h2, h3, h4⟩, h5⟩ := h
  obtain ⟨i1, i2⟩ := rises_mem p.fl 1 h5
  exact ⟨h1, h2, h3, h4, fun r hr => by have := i1 r hr; omega, by have := i2 (by decide); omega⟩
theorem rises_drop {l : List Int} {last : Int} {i : Nat} (hi : i < l.length) : rises last (l.drop i) = (decide (last < l.getD i 0 ∧ l.getD i 0 ≤ 5) && rises (l.getD i 0) (l.drop (i + 1))) := by
  rw [List.drop_eq_getElem_cons hi]
  have e : l.getD i 0 = l[i] := by simp [List.getD_eq_getElem?_getD, List.getElem?_eq_getElem hi]
  rw [e]
  rfl
end Go.Ord
namespace Go.Proofs.YtgjlldapnodfbaaDoor
open Go Go.RowKit Go.Fl Go.Ord Go.Pr Go.Maps

theorem row3_facts {w : World} {G : Nat} {a b c : Value} {t : TypeId} (h : w.heap[G]? = some (.cells #[a, b, c] t (0, 0))) : (w.cell? ⟨G, 0, none⟩ = some a ∧ w.cell? ⟨G, 1, none⟩ = some b ∧ w.cell? ⟨G, 2, none⟩ = some c) ∧ (w.frozen? ⟨G, 0, none⟩ = false ∧ w.frozen? ⟨G, 1, none⟩ = false ∧ w.frozen? ⟨G, 2, none⟩ = false) :=
  ⟨⟨cell_of_row w G 0 _ _ _ h, cell_of_row w G 1 _ _ _ h, cell_of_row w G 2 _ _ _ h⟩, by simp [World.frozen?, h]⟩
theorem newChooser_any (p : Pol) (vf : Value) (w : World) (hv : FlIn w vf p.fl) :
    Calls Tryd.prog 30 #[.agg #[.int .i64 p.D, vf, .int .i64 p.P]] w fun e w' => ∃ bc bm, e = .returned (.pointer (some ⟨bc, 0, none⟩)) ∧ w.heap.size ≤ bm ∧ CH w' bc p vf bm ∧ MP w' bm 0 (fun _ => none) ∧ Kp w w' := by
  have hmm := @run_makeMap Tryd.prog
  have hF : FlIn w vf p.fl := hv
  obtain ⟨o, c, rfl, _⟩ := hv
  have hmp := MP.made (w.alloc (.cells #[.int .i64 p.D, .slice o p.fl.length c, .int .i64 p.P] 24))
  obtain ⟨D, hD⟩ : ∃ D, p.D = D := ⟨_, rfl⟩
  obtain ⟨P, hP⟩ : ∃ P, p.P = P := ⟨_, rfl⟩
  have HD := Lib.hid hD
  have HP := Lib.hid hP
  rw [hD, hP] at hmp ⊢
  rw [World.size_alloc] at hmp
  have HMP := Lib.hid hmp
  clear hD hP hF hmp
  go_enter Tryd.func30, Tryd.ntmps30
  go_wp2_with fail
  go_ret
  refine ⟨w.heap.size + 1 + 1, w.heap.size + 1, rfl, by omega, ?_, ?_, (((Kp.refl w).alloc _).alloc _).alloc _⟩
  · have := heap_alloc2_new (w.alloc (.cells #[.int .i64 D, .slice o p.fl.length c, .int .i64 P] 24)) (.map #[] 0) (.cells #[.int .i64 D, .slice o p.fl.length c, .int .i64 P, .map (some (w.heap.size + 1))] 86)
    rw [World.size_alloc] at this
    unfold CH
    rw [HD.out, HP.out]
    exact this
  · exact HMP.out.kp ((Kp.refl _).alloc _)
def chk (p : Pol) (aR : Addr) : Value := if p.ok = true then .nilIface else .iface 114 (.pointer (some aR))
set_option maxRecDepth 100000 in
set_option maxHeartbeats 1000000 in
theorem pCheck_any (p : Pol) (vf : Value) (aR : Addr) (w : World) (hv : FlIn w vf p.fl) (hR : errAt w 0 aR) :
    Calls Tryd.prog 14 #[.agg #[.int .i64 p.D, vf, .int .i64 p.P]] w fun e w' => e = .returned (chk p aR) ∧ Kp w w' := by
  unfold errAt at hR
  obtain ⟨o, c, rfl, hcell⟩ := hv
  have hR2 := ((Kp.refl w).alloc (.cells #[.int .i64 p.D, .slice o p.fl.length c, .int .i64 p.P] 24)).later hR
  have HCl := Lib.hid hcell
  have HOk : Hid (p.ok = (decide (2 ≤ p.D ∧ p.D ≤ 64 ∧ 2 ≤ p.P ∧ p.P ≤ p.D) && rises 1 p.fl)) := Lib.hid rfl
  have HCk : Hid ((p.ok = true → chk p aR = .nilIface) ∧ (p.ok = false → chk p aR = .iface 114 (.pointer (some aR)))) := Lib.hid ⟨fun h => by unfold chk; rw [if_pos h], fun h => by unfold chk; rw [h]; rfl⟩
  obtain ⟨D, hD⟩ : ∃ D, p.D = D := ⟨_, rfl⟩
  obtain ⟨P, hP⟩ : ∃ P, p.P = P := ⟨_, rfl⟩
  rw [hD, hP] at HOk
  rw [hD, hP] at hR2
  rw [hD, hP]
  obtain ⟨ck, hck⟩ : ∃ ck, chk p aR = ck := ⟨_, rfl⟩
  obtain ⟨ok, hok⟩ : ∃ ok, p.ok = ok := ⟨_, rfl⟩
  rw [hck, hok] at HCk
  rw [hok] at HOk
  rw [hck]
  generalize p.fl = fl at *
  clear hD hP hck hok hcell p
  by_cases hall : 2 ≤ D ∧ D ≤ 64 ∧ 2 ≤ P ∧ P ≤ D
  · obtain ⟨h1, h2, h3, h4⟩ := hall
    have HOr : Hid (ok = rises 1 fl) := Lib.hid (by rw [HOk.out, decide_eq_true (show 2 ≤ D ∧ D ≤ 64 ∧ 2 ≤ P ∧ P ≤ D from ⟨h1, h2, h3, h4⟩), Bool.true_and])
    have d1 : decide (D < 2) = false := by simp; omega
    have d2 : decide (64 < D) = false := by simp; omega
    have d3 : decide (P < 2) = false := by simp; omega
    have d4 : decide (D < P) = false := by simp; omega
    obtain ⟨n, hn⟩ : ∃ n, fl.length = n := ⟨_, rfl⟩
    have HN := Lib.hid hn
    rw [hn] at hR2 ⊢
    clear HOk hn
    go_enter Tryd.func14, Tryd.ntmps14
    go_wp2_with fail
    generalize hw1 : w.alloc (.cells #[.int .i64 D, .slice o n c, .int .i64 P] 24) = w1 at *
    have hk1 : Kp w w1 := by rw [← hw1]; exact (Kp.refl w).alloc _
    clear hw1
    go_loopw [3, 30] (fun x y wr => ∃ (i : Nat) (last : Int), i ≤ n ∧ y = .int .i64 i ∧ x = .int .i64 last ∧ (i : Int) + 1 ≤ last ∧ last ≤ 5 ∧ Hid (ok = rises last (fl.drop i)) ∧ wr = w1) (fun _ y _ => n - (intOf y).toNat)
    case atStart => exact ⟨0, 1, by omega, rfl, rfl, by omega, by omega, HOr, rfl⟩
    case round =>
      obtain ⟨i, last, hi, rfl, rfl, hl1, hl2, HS, rfl⟩ := hrel
      by_cases hlt : i < n
      · have hil : i < fl.length := by rw [HN.out]; exact hlt
        obtain ⟨g, off, rfl, hg, hcell⟩ := HCl.out (by omega)
        have q := hk1.later (hcell i hil)
        have hstep := rises_drop (last := last) hil
        obtain ⟨x, hx⟩ : ∃ x, fl.getD i 0 = x := ⟨_, rfl⟩
        rw [hx] at q hstep
        have HST : Hid (ok = (decide (last < x ∧ x ≤ 5) && rises x (fl.drop (i + 1)))) := Lib.hid (by rw [HS.out, hstep])
        clear hx hcell hstep hil HS
        by_cases hr : last < x ∧ x ≤ 5
        · obtain ⟨r1, r2⟩ := hr
          have HS2 : Hid (ok = rises x (fl.drop (i + 1))) := Lib.hid (by rw [HST.out, decide_eq_true (show last < x ∧ x ≤ 5 from ⟨r1, r2⟩), Bool.true_and])
          have d5 : decide (x ≤ last) = false := by simp; omega
          have d6 : decide (5 < x) = false := by simp; omega
          clear HST
          go_wp2_with fail
          go_roundw
          case rel => exact ⟨i + 1, x, by omega, by go_num, rfl, by omega, by omega, HS2, by first | rfl | trivial⟩
          case measure => simp [intOf]; omega
        · have HE : Hid (ck = .iface 114 (.pointer (some aR))) := Lib.hid (HCk.out.2 (by rw [HST.out, decide_eq_false hr, Bool.false_and]))
          clear HST
          by_cases r1 : x ≤ last
          · have d5 : decide (x ≤ last) = true := by simpa using r1
            clear hr
            go_wp2_with fail
            go_ret
            exact ⟨by rw [HE.out]; rfl, hk1⟩
          · have d5 : decide (x ≤ last) = false := by simpa using r1
            have d6 : decide (5 < x) = true := by simp; omega
            clear hr
            go_wp2_with fail
            go_ret
            exact ⟨by rw [HE.out]; rfl, hk1⟩
      · obtain rfl : n = i := by omega
        have HE : Hid (ck = .nilIface) := Lib.hid (HCk.out.1 (by rw [HS.out, List.drop_of_length_le (by rw [HN.out]; omega)]; rfl))
        go_wp2_with fail
        go_ret
        exact ⟨by rw [HE.out]; rfl, hk1⟩
  · have HE : Hid (ck = .iface 114 (.pointer (some aR))) := Lib.hid (HCk.out.2 (by rw [HOk.out, decide_eq_false hall, Bool.false_and]))
    clear HCl HOk HCk
    by_cases r1 : D < 2
    · have d1 : decide (D < 2) = true := by simpa using r1
      clear hall
      go_enter Tryd.func14, Tryd.ntmps14
      go_wp2_with fail
      go_ret
      exact ⟨by rw [HE.out]; rfl, (Kp.refl w).alloc _⟩
    have d1 : decide (D < 2) = false := by simpa using r1
    by_cases r2 : 64 < D
    · have d2 : decide (64 < D) = true := by simpa using r2
      clear hall
      go_enter Tryd.func14, Tryd.ntmps14
      go_wp2_with fail
      go_ret
      exact ⟨by rw [HE.out]; rfl, (Kp.refl w).alloc _⟩
    have d2 : decide (64 < D) = false := by simpa using r2
    by_cases r3 : P < 2
    · have d3 : decide (P < 2) = true := by simpa using r3
      clear hall
      go_enter Tryd.func14, Tryd.ntmps14
      go_wp2_with fail
      go_ret
      exact ⟨by rw [HE.out]; rfl, (Kp.refl w).alloc _⟩
    have d3 : decide (P < 2) = false := by simpa using r3
    have d4 : decide (D < P) = true := by simp; omega
    clear hall
    go_enter Tryd.func14, Tryd.ntmps14
    go_wp2_with fail
    go_ret
    exact ⟨by rw [HE.out]; rfl, (Kp.refl w).alloc _⟩
/-- The usual policy. -/
def usual : Pol := ⟨16, [2, 3, 4, 5], 13⟩
theorem size_policy : (Tryd.prog.info? 24).map (·.size) = some 3 := by kernel_rfl
theorem ret_policy {fn : Func} {p : Tmp} (h : fn.results = #[.cell p 24]) (tmps : Array Value) (w : World) (g : Nat) (a b c : Value) (t : TypeId) (fr : Nat × Nat)
    (hp : tmps.getD p undef = .pointer (some ⟨g, 0, none⟩)) (hg : w.heap[g]? = some (.cells #[a, b, c] t fr)) : (results fn tmps).run Tryd.prog w = .ok (.agg #[a, b, c]) w :=
  results_cell_row h tmps w g t #[a, b, c] fr _ hp hg Tryd.underlying24 rfl size_policy
theorem ret_order2 {fn : Func} {p u : Tmp} (h : fn.results = #[.cell p 28, .tmp u]) (tmps : Array Value) (w : World) (g : Nat) (a b c : Value) (t : TypeId) (fr : Nat × Nat)
    (hp : tmps.getD p undef = .pointer (some ⟨g, 0, none⟩)) (hg : w.heap[g]? = some (.cells #[a, b, c] t fr)) : (results fn tmps).run Tryd.prog w = .ok (.tuple #[.agg #[a, b, c], tmps.getD u undef]) w := by
  have hp' : tmps[p]?.getD undef = .pointer (some ⟨g, 0, none⟩) := by simpa using hp
  rw [results_cell_tmp h]
  rw [hp]
  simp [asAddr, run_loadVar_row w g t 28 #[a, b, c] fr _ hg Tryd.underlying28 rfl size_order, Result.andThen]
set_option maxRecDepth 100000 in
set_option maxHeartbeats 1000000 in
theorem Usual_any (w : World) : Calls Tryd.prog 16 #[] w fun e w' => ∃ g c, e = .returned (.agg #[.int .i64 16, .slice (some ⟨g, 0, none⟩) 4 c, .int .i64 13]) ∧ w.heap.size ≤ g ∧ FlIn w' (.slice (some ⟨g, 0, none⟩) 4 c) usual.fl ∧ Kp w w' := by
  go_enter Tryd.func16, Tryd.ntmps16
  go_wp2_with fail
  have e1 := heap_alloc2_old w (.cells #[.int .i64 16, .slice (some ⟨w.heap.size + 1, 0, none⟩) 4 4, .int .i64 13] 24) (.cells #[.int .i64 2, .int .i64 3, .int .i64 4, .int .i64 5] 3)
  have e2 := heap_alloc2_new w (.cells #[.int .i64 16, .slice (some ⟨w.heap.size + 1, 0, none⟩) 4 4, .int .i64 13] 24) (.cells #[.int .i64 2, .int .i64 3, .int .i64 4, .int .i64 5] 3)
  refine bodyPost_ret (ret_policy rfl _ _ w.heap.size _ _ _ _ _ rfl e1) rfl ⟨w.heap.size + 1, 4, rfl, by omega, ⟨_, _, rfl, fun _ => ⟨w.heap.size + 1, 0, rfl, by simp, fun i hi => ?_⟩⟩, ((Kp.refl w).alloc _).alloc _⟩
  have hi4 : i < 4 := hi
  obtain rfl | rfl | rfl | rfl : i = 0 ∨ i = 1 ∨ i = 2 ∨ i = 3 := by omega
  · exact cell_of_row _ _ 0 _ _ _ e2
  · exact cell_of_row _ _ 1 _ _ _ e2
  · exact cell_of_row _ _ 2 _ _ _ e2
  · exact cell_of_row _ _ 3 _ _ _ e2
set_option maxRecDepth 100000 in
set_option maxHeartbeats 1000000 in
theorem Choose_len (n : Int) (v : Value) (aL : Addr) (w : World) (hn : n < 1 ∨ 4096 < n) (hv : ∃ a b c, v = .agg #[a, b, c]) (hL : errAt w 1 aL) :
    Calls Tryd.prog 9 #[.int .i64 n, v] w fun e w' => e = .returned (.tuple #[.agg #[.int .i64 0, .int .i64 0, .slice none 0 0], .iface 114 (.pointer (some aL))]) ∧ Kp w w' := by
  unfold errAt at hL
  obtain ⟨a, b, c, rfl⟩ := hv
  have hL2 := (((Kp.refl w).alloc (.cells #[a, b, c] 24)).alloc (.cells #[.int .i64 0, .int .i64 0, .slice none 0 0] 28)).drew.later hL
  have hR := heap_alloc2_new w (.cells #[a, b, c] 24) (.cells #[.int .i64 0, .int .i64 0, .slice none 0 0] 28)
  have HR := Lib.hid hR
  clear hR
  have d1 : decide (n < 1) = true ∨ (decide (n < 1) = false ∧ decide (4096 < n) = true) := by simp; omega
  rcases d1 with d1 | ⟨d1, d2⟩
  · clear hn
    go_enter Tryd.func9, Tryd.ntmps9
    go_upto_region 2 with fail
    go_region
    all_goals go_wp2_with fail
    all_goals exact bodyPost_ret (ret_order2 rfl _ _ (w.heap.size + 1) _ _ _ _ _ rfl HR.out) rfl ⟨rfl, (((Kp.refl w).alloc _).alloc _).drew⟩
  · clear hn
    go_enter Tryd.func9, Tryd.ntmps9
    go_upto_region 2 with fail
    go_region
    all_goals go_wp2_with fail
    all_goals exact bodyPost_ret (ret_order2 rfl _ _ (w.heap.size + 1) _ _ _ _ _ rfl HR.out) rfl ⟨rfl, (((Kp.refl w).alloc _).alloc _).drew⟩
set_option maxRecDepth 100000 in
set_option maxHeartbeats 1000000 in
theorem Choose_pol (n : Int) (p : Pol) (vf : Value) (aR : Addr) (w : World) (n1 : 1 ≤ n) (n2 : n ≤ 4096) (hv : FlIn w vf p.fl) (hp : p.ok = false) (hR : errAt w 0 aR) :
    Calls Tryd.prog 9 #[.int .i64 n, .agg #[.int .i64 p.D, vf, .int .i64 p.P]] w fun e w' => e = .returned (.tuple #[.agg #[.int .i64 0, .int .i64 0, .slice none 0 0], .iface 114 (.pointer (some aR))]) ∧ Kp w w' := by
  have hC : Hid (∀ w', Kp w w' → Calls Tryd.prog 14 #[.agg #[.int .i64 p.D, vf, .int .i64 p.P]] w' fun e w'' => e = .returned (.iface 114 (.pointer (some aR))) ∧ Kp w' w'') := Lib.hid fun w' k => by
    have h := pCheck_any p vf aR w' (hv.kp k) (k.later hR)
    unfold chk at h
    rw [hp] at h
    exact h
  have hk0 := ((Kp.refl w).alloc (.cells #[.int .i64 p.D, vf, .int .i64 p.P] 24)).alloc (.cells #[.int .i64 0, .int .i64 0, .slice none 0 0] 28)
  have hRR := heap_alloc2_new w (.cells #[.int .i64 p.D, vf, .int .i64 p.P] 24) (.cells #[.int .i64 0, .int .i64 0, .slice none 0 0] 28)
  have HR := Lib.hid hRR
  have d1 : decide (n < 1) = false := by simp; omega
  have d2 : decide (4096 < n) = false := by simp; omega
  have HER := Lib.hid hR
  obtain ⟨o, c, rfl, _⟩ := hv
  obtain ⟨D, hD⟩ : ∃ D, p.D = D := ⟨_, rfl⟩
  obtain ⟨P, hP⟩ : ∃ P, p.P = P := ⟨_, rfl⟩
  rw [hD, hP] at hC HR hk0 ⊢
  clear hp hR hRR hD hP
  go_enter Tryd.func9, Tryd.ntmps9
  go_upto_region 4 with (go_at_call 14; (with_reducible refine (hC.out _ hk0).mono ?_); rintro e w1 ⟨rfl, hk1⟩; have hRR := (hk1.block _ (Array.getElem?_eq_some_iff.1 HR.out).1).trans HR.out)
  have q1 : w1.cell? ⟨0, 0, none⟩ = _ := (hk0.trans hk1).later HER.out
  obtain ⟨⟨r0, r1, r2⟩, s0, s1, s2⟩ := row3_facts hRR
  have hRR2 := Lib.hid hRR
  clear hRR
  go_region
  all_goals go_wp2_with fail
  all_goals exact bodyPost_ret (ret_order2 rfl _ _ (w.heap.size + 1) _ _ _ _ _ rfl (heap_set3 w1 _ _ _ _ _ _ _ _ _ hRR2.out)) rfl ⟨rfl, (Kp.set3 (hk0.trans hk1) (by omega) _ _ _).drew⟩
/-- The chosen order as a value. -/
def OB (Q : Nat → Prop) (w : World) (b : Option (Tr × Int)) (k n : Int) (s : Value) : Prop :=
  match b with
  | none => k = 0 ∧ n = 0 ∧ s = .slice none 0 0
  | some (T, _) => OX Q w T (.agg #[.int .i64 k, .int .i64 n, s])
theorem OB.of {Q : Nat → Prop} {w : World} {b : Option (Tr × Int)} {k n : Int} {s : Value} {c : Int} (h : BVal Q w b k n s c) : OB Q w b k n s := by
  cases b with
  | none => exact ⟨h.2.1, h.2.2.1, h.2.2.2⟩
  | some x => exact h.2.2.2
theorem OB.kb {Q : Nat → Prop} {w w' : World} {bb : Nat} {b : Option (Tr × Int)} {k n : Int} {s : Value} (hQ : ∀ g, Q g → g ≠ bb) (h : OB Q w b k n s) (hk : Kb bb w w') : OB Q w' b k n s := by
  cases b with
  | none => exact h
  | some p => exact OX.stay hk.size (fun g hg hq => hk.block g hg (hQ g hq)) (fun _ _ h => h) h
theorem OB.mono {Q Q' : Nat → Prop} {w : World} {b : Option (Tr × Int)} {k n : Int} {s : Value} (h : OB Q w b k n s) (hQ : ∀ g, Q g → Q' g) : OB Q' w b k n s := by
  cases b with
  | none => exact h
  | some x => exact OX.mono h (fun g _ hg => hQ g hg)
theorem MP.mono {w : World} {b n n' : Nat} {f : Nat → Option Value} (h : MP w b n f) (hn : n ≤ n') : MP w b n' f := by
  obtain ⟨D, h1, h2⟩ := h
  exact ⟨D, h1.mono hn, h2⟩
theorem kb_set3 (w : World) (G : Nat) (a b c : Value) : Kb G w (((w.setCell ⟨G, 0, none⟩ a).setCell ⟨G, 1, none⟩ b).setCell ⟨G, 2, none⟩ c) :=
  ⟨rfl, rfl, rfl, by simp, fun q _ hq => set3_other w G _ _ _ q hq⟩
set_option maxRecDepth 100000 in
set_option maxHeartbeats 1000000 in
theorem Choose_good (n : Nat) (p : Pol) (vf : Value) (aR : Addr) (w : World) (n1 : 1 ≤ n) (n2 : n ≤ 4096) (hv : FlIn w vf p.fl) (hp : p.ok = true) (hR : errAt w 0 aR) :
    Calls Tryd.prog 9 #[.int .i64 n, .agg #[.int .i64 p.D, vf, .int .i64 p.P]] w fun e w' => ∃ k n0 o m c, e = .returned (.tuple #[.agg #[.int .i64 k, .int .i64 n0, .slice o m c], .nilIface]) ∧ OB (fun g => w.heap.size ≤ g) w' (best p n) k n0 (.slice o m c) ∧ Kp w w' := by
  have hC : Hid (∀ w', Kp w w' → Calls Tryd.prog 14 #[.agg #[.int .i64 p.D, vf, .int .i64 p.P]] w' fun e w'' => e = .returned .nilIface ∧ Kp w' w'') := Lib.hid fun w' k => by
    have h := pCheck_any p vf aR w' (hv.kp k) (k.later hR)
    unfold chk at h
    rw [hp] at h
    exact h
  have hN : Hid (∀ w', Kp w w' → Calls Tryd.prog 30 #[.agg #[.int .i64 p.D, vf, .int .i64 p.P]] w' fun e w'' => ∃ bc bm, e = .returned (.pointer (some ⟨bc, 0, none⟩)) ∧ Hid (w'.heap.size ≤ bm ∧ CH w'' bc p vf bm ∧ MP w'' bm 0 (fun _ => none) ∧ FlIn w'' vf p.fl) ∧ Kp w' w'') := Lib.hid fun w' k => by
    refine (newChooser_any p vf w' (hv.kp k)).mono ?_
    rintro e w'' ⟨bc, bm, rfl, h1, h2, h3, h4⟩
    exact ⟨bc, bm, rfl, Lib.hid ⟨h1, h2, h3, hv.kp (k.trans h4)⟩, h4⟩
  have hk0 := ((Kp.refl w).alloc (.cells #[.int .i64 p.D, vf, .int .i64 p.P] 24)).alloc (.cells #[.int .i64 0, .int .i64 0, .slice none 0 0] 28)
  have hRR := heap_alloc2_new w (.cells #[.int .i64 p.D, vf, .int .i64 p.P] 24) (.cells #[.int .i64 0, .int .i64 0, .slice none 0 0] 28)
  have hP0 := heap_alloc2_old w (.cells #[.int .i64 p.D, vf, .int .i64 p.P] 24) (.cells #[.int .i64 0, .int .i64 0, .slice none 0 0] 28)
  have HR := Lib.hid hRR
  have HP0 := Lib.hid hP0
  have d1 : decide ((n : Int) < 1) = false := by simp; omega
  have d2 : decide ((4096 : Int) < (n : Int)) = false := by simp; omega
  have hCh : Hid (∀ (w2 : World) bc bm, w.heap.size + 1 < bm → w.heap.size + 1 < w2.heap.size → CH w2 bc p vf bm → MP w2 bm 0 (fun _ => none) → FlIn w2 vf p.fl → Calls Tryd.prog 31 #[.pointer (some ⟨bc, 0, none⟩), .int .i64 n] w2 fun e w3 => ∃ k n0 o m c cost, e = .returned (.agg #[.int .i64 k, .int .i64 n0, .slice o m c, .int .i64 cost]) ∧ Hid (OB (fun g => w.heap.size ≤ g ∧ g ≠ w.heap.size + 1) w3 (best p n) k n0 (.slice o m c) ∧ Kb bm w2 w3)) := Lib.hid fun w2 bc bm hbm hs h1 h2 h3 => by
    refine (cheapest_any (Pol.ok_good hp) bc bm vf (rank n) n (Nat.le_refl _) n1 (by omega) (fun g => w.heap.size ≤ g ∧ g ≠ w.heap.size + 1) w2 (fun _ => none) (fun g hg => by omega) h1 h3 ⟨h2.mono (Nat.zero_le _), Memo.empty _ _ _, fun i v h => by cases h⟩).mono ?_
    rintro e w3 ⟨k, n0, o, m, c, cost, f', rfl, hB, _, hK, _⟩
    exact ⟨k, n0, o, m, c, cost, rfl, Lib.hid ⟨OB.of hB, hK⟩⟩
  obtain ⟨o, c, rfl, _⟩ := hv
  have hfd : ∀ (k n : Int) (o : Option Addr) (m c : Nat) (cost : Int) (w : World), (Instr.field 65 (.agg #[.int .i64 k, .int .i64 n, .slice o m c, .int .i64 cost]) 0).run Tryd.prog w = .ok (.agg #[.int .i64 k, .int .i64 n, .slice o m c]) w := fun _ _ _ _ _ _ _ => by kernel_rfl
  obtain ⟨b, hb⟩ : ∃ b, best p n = b := ⟨_, rfl⟩
  obtain ⟨D, hD⟩ : ∃ D, p.D = D := ⟨_, rfl⟩
  obtain ⟨P, hP⟩ : ∃ P, p.P = P := ⟨_, rfl⟩
  rw [hb] at hCh ⊢
  rw [hD, hP] at hC hN HR HP0 hk0 ⊢
  clear hp hR hRR hP0 hD hP hb
  go_enter Tryd.func9, Tryd.ntmps9
  go_upto_region 5 with (go_at_call 14; (with_reducible refine (hC.out _ hk0).mono ?_); rintro e w1 ⟨rfl, hk1⟩)
  have hsz : w.heap.size + 1 < w1.heap.size := Nat.lt_of_lt_of_le (Array.getElem?_eq_some_iff.1 HR.out).1 hk1.size
  have hRR := Lib.hid ((hk1.block _ (Array.getElem?_eq_some_iff.1 HR.out).1).trans HR.out)
  obtain ⟨⟨p0, p1, p2⟩, _⟩ := row3_facts ((hk1.block _ (Array.getElem?_eq_some_iff.1 HP0.out).1).trans HP0.out)
  go_wp2_with (first
    | (go_at_call 30; (with_reducible refine (hN.out _ (hk0.trans hk1)).mono ?_); rintro e w2 ⟨bc, bm, rfl, H2, hk2⟩)
    | (go_at_call 31; (with_reducible refine (hCh.out _ _ _ (Nat.lt_of_lt_of_le hsz H2.out.1) (Nat.lt_of_lt_of_le hsz hk2.size) H2.out.2.1 H2.out.2.2.1 H2.out.2.2.2).mono ?_); rintro e w3 ⟨k3, n3, o3, m3, c3, cost3, rfl, H3⟩; have hz := (H3.out.2.block (w.heap.size + 1) (Nat.lt_of_lt_of_le hsz hk2.size) (by have := H2.out.1; omega)).trans ((hk2.block _ hsz).trans hRR.out); obtain ⟨⟨r0, r1, r2⟩, s0, s1, s2⟩ := row3_facts hz))
  have hkw : Kp w w3 := H3.out.2.up ((hk0.trans hk1).trans hk2) (by have := H2.out.1; omega)
  exact bodyPost_ret (ret_order2 rfl _ _ (w.heap.size + 1) _ _ _ _ _ rfl (heap_set3 w3 _ _ _ _ _ _ _ _ _ hz)) rfl ⟨_, _, _, _, _, rfl, (H3.out.1.kb (fun g h => h.2) (kb_set3 w3 (w.heap.size + 1) _ _ _)).mono (fun g h => h.1), Kp.set3 hkw (by omega) _ _ _⟩
end Go.Proofs.YtgjlldapnodfbaaDoor
