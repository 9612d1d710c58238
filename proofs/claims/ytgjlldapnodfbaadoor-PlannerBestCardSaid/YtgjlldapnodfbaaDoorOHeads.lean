/-
  The planner's policy: butterflies, hard lengths, the orders to the left.
-/
import Derived.Test.YtgjlldapnodfbaaDoorOIter
namespace Go.Ord
open Go.Pr
/-- A policy. -/
structure Pol where
  D : Int
  fl : List Int
  P : Int
def Pol.flies (p : Pol) (r : Int) : Bool := decide (r ∈ p.fl)
/-- The leaves of a length: kind, number. -/
def Pol.heads (p : Pol) (a : Int) : List Int := (if a ≤ p.D then [1] else []) ++ (if p.flies a then [2] else [])
def Pol.hard (p : Pol) (n : Nat) : Bool := (facts n).any (fun q => decide (p.P < (q : Int))) && decide (n ≤ 8192)
end Go.Ord
namespace Go.Proofs.YtgjlldapnodfbaaDoor
open Go Go.RowKit Go.Fl Go.Ord Go.Pr

/-- A list of numbers lies there. -/
def FlIn (w : World) (v : Value) (l : List Int) : Prop :=
  ∃ o c, v = .slice o l.length c ∧ (0 < l.length → ∃ g off, o = some ⟨g, off, none⟩ ∧ g < w.heap.size ∧ ∀ i, i < l.length → w.cell? ⟨g, off + i, none⟩ = some (.int .i64 (l.getD i 0)))
theorem FlIn.kp {w w' : World} {v : Value} {l : List Int} (h : FlIn w v l) (k : Kp w w') : FlIn w' v l := by
  obtain ⟨o, c, e, h⟩ := h
  refine ⟨o, c, e, fun hl => ?_⟩
  obtain ⟨g, off, e2, hg, hc⟩ := h hl
  exact ⟨g, off, e2, Nat.lt_of_lt_of_le hg k.size, fun i hi => k.later (hc i hi)⟩
theorem mem_getD {l : List Int} {i : Nat} (h : i < l.length) : l.getD i 0 ∈ l := by
  simp [List.getD_eq_getElem?_getD, List.getElem?_eq_getElem h]
theorem getD_of_mem {l : List Int} {r : Int} (h : r ∈ l) : ∃ i, i < l.length ∧ l.getD i 0 = r := by
  obtain ⟨i, hi, e⟩ := List.getElem_of_mem h
  exact ⟨i, hi, by simp [List.getD_eq_getElem?_getD, List.getElem?_eq_getElem hi, e]⟩
set_option maxRecDepth 100000 in
set_option maxHeartbeats 1000000 in
theorem Index_any (l : List Int) (v : Value) (r : Int) (w : World) (hl : l.length ≤ 1000000) (hv : FlIn w v l) : Calls Tryd.prog 86 #[v, .int .i64 r] w fun e w' => ∃ x : Int, e = .returned (.int .i64 x) ∧ -1 ≤ x ∧ x ≤ 1000000 ∧ Hid (0 ≤ x ↔ r ∈ l) ∧ w' = w := by
  obtain ⟨o, c, rfl, hc⟩ := hv
  have HC := Lib.hid hc
  clear hc
  obtain ⟨n, hn⟩ : ∃ n, l.length = n := ⟨_, rfl⟩
  have HN := Lib.hid hn
  rw [hn] at hl ⊢
  clear hn
  go_enter Tryd.func86, Tryd.ntmps86
  go_wp2_with fail
  go_loopw [5, 8] (fun _ y wr => ∃ i : Nat, i ≤ n ∧ y = .int .i64 i ∧ Hid (∀ j, j < i → l.getD j 0 ≠ r) ∧ wr = w) (fun _ y _ => n - (intOf y).toNat)
  case atStart => exact ⟨0, by omega, rfl, Lib.hid fun j hj => by omega, rfl⟩
  case round =>
    obtain ⟨i, hi, rfl, HJ, rfl⟩ := hrel
    by_cases hlt : i < n
    · have hn := HN.out
      obtain ⟨g, off, rfl, hg, hcell⟩ := HC.out (by omega)
      have q := hcell i (by omega)
      obtain ⟨x, hx⟩ : ∃ x, l.getD i 0 = x := ⟨_, rfl⟩
      rw [hx] at q
      have HX := Lib.hid hx
      clear hx hcell hn
      by_cases hr : r = x
      · have d : (r == x) = true := by simpa using hr
        have hres : Hid (0 ≤ (i : Int) ↔ r ∈ l) := Lib.hid ⟨fun _ => by rw [hr, ← HX.out]; exact mem_getD (by rw [HN.out]; exact hlt), fun _ => by omega⟩
        clear hr
        go_wp2_with fail
        go_ret
        exact ⟨_, rfl, by omega, by omega, hres, rfl⟩
      · have d : (r == x) = false := by simpa using hr
        have hJ : Hid (∀ j, j < i + 1 → l.getD j 0 ≠ r) := Lib.hid fun j hj => by
          by_cases e : j = i
          · subst e; rw [HX.out]; exact fun h => hr h.symm
          · exact HJ.out j (by omega)
        clear hr HJ
        go_wp2_with fail
        go_roundw
        case rel => exact ⟨i + 1, by omega, by go_num, hJ, by first | rfl | trivial⟩
        case measure => simp [intOf]; omega
    · obtain rfl : n = i := by omega
      go_wp2_with fail
      go_ret
      exact ⟨_, rfl, by decide, by decide, Lib.hid ⟨fun h => absurd h (by decide), fun h => by
        obtain ⟨j, hj, e⟩ := getD_of_mem h
        exact absurd e (HJ.out j (by have := HN.out; omega))⟩, rfl⟩
theorem Contains_any (l : List Int) (v : Value) (r : Int) (w : World) (hl : l.length ≤ 1000000) (hv : FlIn w v l) : Calls Tryd.prog 84 #[v, .int .i64 r] w fun e w' => e = .returned (.bool (decide (r ∈ l))) ∧ w' = w := by
  have h := Lib.hid (Index_any l v r w hl hv)
  obtain ⟨o, c, rfl, _⟩ := hv
  obtain ⟨b, hb⟩ : ∃ b, decide (r ∈ l) = b := ⟨_, rfl⟩
  have HB := Lib.hid hb
  rw [hb]
  clear hb
  go_enter Tryd.func84, Tryd.ntmps84
  go_wp2_with (go_at_call 86; (with_reducible refine h.out.mono ?_); rintro e w1 ⟨x, rfl, hx1, hx2, HX, rfl⟩)
  go_ret
  refine ⟨?_, rfl⟩
  rw [← HB.out]
  rw [show decide (r ∈ l) = decide (0 ≤ x) from (decide_eq_decide.2 HX.out).symm]
  rfl
/-- The chooser lies there. -/
def CH (w : World) (bc : Nat) (p : Pol) (vf : Value) (bm : Nat) : Prop :=
  w.heap[bc]? = some (.cells #[.int .i64 p.D, vf, .int .i64 p.P, .map (some bm)] 86 (0, 0))
theorem CH.lt {w : World} {bc bm : Nat} {p : Pol} {vf : Value} (h : CH w bc p vf bm) : bc < w.heap.size := (Array.getElem?_eq_some_iff.1 h).1
theorem CH.kp {w w' : World} {bc bm : Nat} {p : Pol} {vf : Value} (h : CH w bc p vf bm) (k : Kp w w') : CH w' bc p vf bm := (k.block bc h.lt).trans h
theorem flies_any (p : Pol) (bc bm : Nat) (vf : Value) (r : Int) (w : World) (hl : p.fl.length ≤ 1000000) (hc : CH w bc p vf bm) (hv : FlIn w vf p.fl) : Calls Tryd.prog 68 #[.pointer (some ⟨bc, 0, none⟩), .int .i64 r] w fun e w' => e = .returned (.bool (p.flies r)) ∧ w' = w := by
  have h := Lib.hid (Contains_any p.fl vf r w hl hv)
  have q := cell_of_row w bc 1 _ _ _ hc
  obtain ⟨o, c, rfl, _⟩ := hv
  obtain ⟨b, hb⟩ : ∃ b, decide (r ∈ p.fl) = b := ⟨_, rfl⟩
  have e : p.flies r = b := hb
  rw [hb] at h
  rw [e]
  clear hb e hc
  go_enter Tryd.func68, Tryd.ntmps68
  go_wp2_with (go_at_call 84; (with_reducible refine h.out.mono ?_); rintro e w1 ⟨rfl, rfl⟩)
  go_ret
  exact ⟨rfl, rfl⟩

theorem any_found {l : List Nat} {P : Int} {i : Nat} (hi : i < l.length) (h : P < ((l[i] : Nat) : Int)) : l.any (fun q => decide (P < (q : Int))) = true :=
  List.any_eq_true.2 ⟨l[i], List.getElem_mem hi, by simpa using h⟩
theorem any_none {l : List Nat} {P : Int} (h : ∀ i (hi : i < l.length), ¬ P < ((l[i] : Nat) : Int)) : l.any (fun q => decide (P < (q : Int))) = false := by
  rw [List.any_eq_false]
  intro q hq
  obtain ⟨i, hi, rfl⟩ := List.getElem_of_mem hq
  simpa using h i hi
theorem facts_mem_le {n q : Nat} (hn : 0 < n) (h : q ∈ facts n) : q ≤ n := Nat.le_of_dvd hn (facts_mem h).2
set_option maxRecDepth 100000 in
set_option maxHeartbeats 1000000 in
theorem hard_any (p : Pol) (bc bm : Nat) (vf : Value) (n : Nat) (w : World) (n1 : 1 ≤ n) (n2 : n ≤ 1000000) (hc : CH w bc p vf bm) : Calls Tryd.prog 49 #[.pointer (some ⟨bc, 0, none⟩), .int .i64 n] w fun e w' => e = .returned (.bool (p.hard n)) ∧ Kp w w' := by
  have h1 : Hid (∀ w, Calls Tryd.prog 73 #[.int .i64 n] w fun e w' => ∃ v, e = .returned v ∧ IL w' w.heap.size v (facts n) ∧ Kp w w') := Lib.hid fun w => by
    have := Factors_any (n : Int) w
    have e : factsI (n : Int) = facts n := by unfold factsI; rw [if_neg (by omega)]; rfl
    rw [e] at this
    exact this
  have q := cell_of_row w bc 2 _ _ _ hc
  have hll := facts_length n
  have HM : Hid (∀ i (hi : i < (facts n).length), (facts n)[i] ≤ n) := Lib.hid fun i hi => facts_mem_le (by omega) (List.getElem_mem hi)
  have HH : Hid (p.hard n = ((facts n).any (fun q => decide (p.P < (q : Int))) && decide (n ≤ 8192))) := Lib.hid rfl
  obtain ⟨P, hP⟩ : ∃ P, p.P = P := ⟨_, rfl⟩
  obtain ⟨b, hb⟩ : ∃ b, p.hard n = b := ⟨_, rfl⟩
  rw [hP, hb] at HH
  rw [hb]
  rw [hP] at q
  clear hc hP hb
  generalize facts n = l at *
  go_enter Tryd.func49, Tryd.ntmps49
  go_upto_region 2 with (go_at_call 73; (with_reducible refine (h1.out _).mono ?_); rintro e w1 ⟨v, rfl, hv, hk⟩; obtain ⟨o, c, rfl⟩ := IL.form hv)
  have q1 := hk.later q
  clear q
  obtain ⟨m, hm⟩ : ∃ m, l.length = m := ⟨_, rfl⟩
  have HV := Lib.hid hv
  have HL := Lib.hid hm
  rw [hm] at hll ⊢
  clear hm hv
  go_loopw [6, 10] (fun _ y wr => ∃ i : Nat, i ≤ m ∧ y = .int .i64 i ∧ Hid (∀ j (hj : j < l.length), j < i → ¬ P < ((l[j] : Nat) : Int)) ∧ wr = w1) (fun _ y _ => m - (intOf y).toNat)
  case atStart => exact ⟨0, by omega, rfl, Lib.hid fun j _ hj => by omega, rfl⟩
  case round =>
    obtain ⟨i, hi, rfl, HJ, rfl⟩ := hrel
    by_cases hlt : i < m
    · obtain ⟨g, c2, e⟩ := HV.out.some (by rw [HL.out]; omega)
      cases e
      have hx := HV.out.cell i (by rw [HL.out]; exact hlt)
      have hle := HM.out i (by rw [HL.out]; exact hlt)
      obtain ⟨x, hxe⟩ : ∃ x, l[i]'(by rw [HL.out]; exact hlt) = x := ⟨_, rfl⟩
      rw [hxe] at hx hle
      have HX := Lib.hid hxe
      clear hxe
      by_cases hgt : P < (x : Int)
      · have hd : Hid (b = decide ((n : Int) ≤ 8192)) := Lib.hid (by
          rw [HH.out, any_found (by rw [HL.out]; exact hlt) (by rw [HX.out]; exact hgt), Bool.true_and]
          exact decide_eq_decide.2 (by omega))
        have d : decide (P < (x : Int)) = true := by simpa using hgt
        go_wp2_with fail
        all_goals go_ret
        all_goals exact ⟨by rw [hd.out]; rfl, hk⟩
      · have d : decide (P < (x : Int)) = false := by simpa using hgt
        have hJ : Hid (∀ j (hj : j < l.length), j < i + 1 → ¬ P < ((l[j] : Nat) : Int)) := Lib.hid fun j hj hj2 => by
          by_cases e : j = i
          · subst e; rw [HX.out]; exact hgt
          · exact HJ.out j hj (by omega)
        clear HJ
        go_wp2_with fail
        go_roundw
        case rel => exact ⟨i + 1, by omega, by go_num, hJ, by first | rfl | trivial⟩
        case measure => simp [intOf]; omega
    · obtain rfl : m = i := by omega
      have hd : Hid (b = false) := Lib.hid (by
        rw [HH.out, any_none fun j hj => HJ.out j hj (by rw [← HL.out]; exact hj), Bool.false_and])
      go_wp2_with fail
      go_ret
      exact ⟨by rw [hd.out]; rfl, hk⟩
end Go.Proofs.YtgjlldapnodfbaaDoor
