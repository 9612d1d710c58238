/-
  The reference's Choose.
-/
import Derived.Test.YtgjlldapnodfbaaDoorORefF
namespace Go.Proofs.YtgjlldapnodfbaaDoor
open Go Go.RowKit Go.Fl Go.Ord Go.Pr

theorem KI.start {p : Pol} {Q : Nat → Prop} {w : World} {bk : Nat} (h : w.heap[bk]? = some (.cells #[.slice none 0 0, .slice none 0 0, .slice none 0 0] 72 (0, 0))) : KI p Q (fun g => g = bk) bk w [] := by
  have hK : KM (fun g => g = bk) bk w (.slice none 0 0) 0 [] (.slice none 0 0) 0 [] (.slice none 0 0) 0 [] :=
    { row := h
      lt := fun g hg => by subst hg; exact (Array.getElem?_eq_some_iff.1 h).1
      sk := rfl
      rN := World.ownsRow_nil _ _ _ _
      rO := World.ownsRow_nil _ _ _ _
      rC := World.ownsRow_nil _ _ _ _
      oN := fun g hg => by cases hg
      oO := fun g hg => by cases hg
      oC := fun g hg => by cases hg }
  exact ⟨_, _, _, _, _, hK, ⟨List.nodup_nil, fun i hi => by cases hi⟩, fun i hi => by cases hi⟩
set_option maxRecDepth 100000 in
set_option maxHeartbeats 1000000 in
theorem rChoose_len (n : Int) (v : Value) (w : World) (hn : n < 1 ∨ 4096 < n) (hv : ∃ a b c, v = .agg #[a, b, c]) :
    Calls Tryd.prog 10 #[.int .i64 n, v] w fun e w' => e = .returned (.tuple #[.agg #[.int .i64 0, .int .i64 0, .slice none 0 0], .int .i64 7]) ∧ Kp w w' := by
  obtain ⟨a, b, c, rfl⟩ := hv
  have hR := heap_alloc2_new w (.cells #[a, b, c] 24) (.cells #[.int .i64 0, .int .i64 0, .slice none 0 0] 28)
  have HR := Lib.hid hR
  clear hR
  have d1 : decide (n < 1) = true ∨ (decide (n < 1) = false ∧ decide (4096 < n) = true) := by simp; omega
  rcases d1 with d1 | ⟨d1, d2⟩
  all_goals
    clear hn
    go_enter Tryd.func10, Tryd.ntmps10
    go_wp2_with fail
    exact bodyPost_ret (ret_order2 (p := 4) (u := 5) rfl _ _ (w.heap.size + 1) _ _ _ _ _ rfl HR.out) rfl ⟨rfl, ((Kp.refl w).alloc _).alloc _⟩
set_option maxRecDepth 100000 in
set_option maxHeartbeats 1000000 in
theorem rChoose_pol (n : Int) (p : Pol) (vf : Value) (w : World) (n1 : 1 ≤ n) (n2 : n ≤ 4096) (hl : p.fl.length ≤ 17592186044416) (hv : FlIn w vf p.fl) (hp : p.ok = false) :
    Calls Tryd.prog 10 #[.int .i64 n, .agg #[.int .i64 p.D, vf, .int .i64 p.P]] w fun e w' => e = .returned (.tuple #[.agg #[.int .i64 0, .int .i64 0, .slice none 0 0], .int .i64 5]) ∧ Kp w w' := by
  have hC : Hid (∀ w', Kp w w' → Calls Tryd.prog 15 #[.agg #[.int .i64 p.D, vf, .int .i64 p.P]] w' fun e w'' => e = .returned (.int .i64 5) ∧ Kp w' w'') := Lib.hid fun w' k => by
    have h := rPCheck_any p vf w' hl (hv.kp k)
    rw [hp] at h
    exact h
  have hk0 := ((Kp.refl w).alloc (.cells #[.int .i64 p.D, vf, .int .i64 p.P] 24)).alloc (.cells #[.int .i64 0, .int .i64 0, .slice none 0 0] 28)
  have hR := heap_alloc2_new w (.cells #[.int .i64 p.D, vf, .int .i64 p.P] 24) (.cells #[.int .i64 0, .int .i64 0, .slice none 0 0] 28)
  have HR := Lib.hid hR
  have d1 : decide (n < 1) = false := by simp; omega
  have d2 : decide (4096 < n) = false := by simp; omega
  obtain ⟨o, c, rfl, _⟩ := hv
  clear hp hR
  go_enter Tryd.func10, Tryd.ntmps10
  go_upto_region 4 with (go_at_call 15; (with_reducible refine (hC.out _ hk0).mono ?_); rintro e w1 ⟨rfl, hk1⟩)
  have hRR := (hk1.block _ (Array.getElem?_eq_some_iff.1 HR.out).1).trans HR.out
  obtain ⟨⟨r0, r1, r2⟩, s0, s1, s2⟩ := row3_facts hRR
  have hRR2 := Lib.hid hRR
  clear hRR
  go_wp2_with fail
  exact bodyPost_ret (ret_order2 (p := 4) (u := 5) rfl _ _ (w.heap.size + 1) _ _ _ _ _ rfl (heap_set3 w1 _ _ _ _ _ _ _ _ _ hRR2.out)) rfl ⟨rfl, Kp.set3 (hk0.trans hk1) (by omega) _ _ _⟩
set_option maxRecDepth 100000 in
set_option maxHeartbeats 2000000 in
theorem rChoose_good (n : Nat) (p : Pol) (vf : Value) (w : World) (n1 : 1 ≤ n) (n2 : n ≤ 4096) (hl : p.fl.length ≤ 17592186044416) (hv : FlIn w vf p.fl) (hp : p.ok = true) (hR : RSpec p vf n) :
    Calls Tryd.prog 10 #[.int .i64 n, .agg #[.int .i64 p.D, vf, .int .i64 p.P]] w fun e w' => ∃ k n0 o m c, e = .returned (.tuple #[.agg #[.int .i64 k, .int .i64 n0, .slice o m c], .int .i64 0]) ∧ OB (fun g => w.heap.size ≤ g) w' (best p n) k n0 (.slice o m c) ∧ Kp w w' := by
  have hC : Hid (∀ w', Kp w w' → Calls Tryd.prog 15 #[.agg #[.int .i64 p.D, vf, .int .i64 p.P]] w' fun e w'' => e = .returned (.int .i64 0) ∧ Kp w' w'') := Lib.hid fun w' k => by
    have h := rPCheck_any p vf w' hl (hv.kp k)
    rw [hp] at h
    exact h
  have hk0 := ((Kp.refl w).alloc (.cells #[.int .i64 p.D, vf, .int .i64 p.P] 24)).alloc (.cells #[.int .i64 0, .int .i64 0, .slice none 0 0] 28)
  have hRc := heap_alloc2_new w (.cells #[.int .i64 p.D, vf, .int .i64 p.P] 24) (.cells #[.int .i64 0, .int .i64 0, .slice none 0 0] 28)
  have hP0 := heap_alloc2_old w (.cells #[.int .i64 p.D, vf, .int .i64 p.P] 24) (.cells #[.int .i64 0, .int .i64 0, .slice none 0 0] 28)
  have HR := Lib.hid hRc
  have HP0 := Lib.hid hP0
  have d1 : decide ((n : Int) < 1) = false := by simp; omega
  have d2 : decide ((4096 : Int) < (n : Int)) = false := by simp; omega
  have hCh : Hid (∀ w2, Kp w w2 → w.heap.size + 1 < w2.heap.size → Calls Tryd.prog 32 #[.pointer (some ⟨w2.heap.size, 0, none⟩), .int .i64 n, .agg #[.int .i64 p.D, vf, .int .i64 p.P]] (w2.alloc (.cells #[.slice none 0 0, .slice none 0 0, .slice none 0 0] 72)) fun e w3 => ∃ k n0 o m c cost, e = .returned (.tuple #[.agg #[.int .i64 k, .int .i64 n0, .slice o m c], .int .i64 cost]) ∧ Hid (OB (fun g => w.heap.size ≤ g ∧ g ≠ w.heap.size + 1) w3 (best p n) k n0 (.slice o m c)) ∧ Kp w2 w3) := Lib.hid fun w2 k hs => by
    have kA := (Kp.refl w2).alloc (.cells #[.slice none 0 0, .slice none 0 0, .slice none 0 0] 72)
    have hsz := kA.size
    refine (hR (fun g => w.heap.size ≤ g ∧ g ≠ w.heap.size + 1) (fun g => g = w2.heap.size) w2.heap.size _ [] (fun g hg => by omega) ?_ (KI.start (heap_alloc_new w2 _))).mono ?_
    · obtain ⟨o, c, e, h⟩ := hv
      refine ⟨o, c, e, fun hl => ?_⟩
      obtain ⟨g, off, e2, hg, hc⟩ := h hl
      exact ⟨g, off, e2, ⟨by have := k.size; omega, by have := k.size; omega⟩, fun i hi => (k.trans kA).later (hc i hi)⟩
    · rintro e w3 ⟨k0, n0, o, m, c, cost, S', ext, rfl, hB, _, hX, _⟩
      refine ⟨k0, n0, o, m, c, cost, rfl, Lib.hid ((OB.of hB).mono fun g h => h.1), ?_⟩
      exact ⟨hX.os.trans kA.os, hX.tape.trans kA.tape, hX.output.trans kA.output, Nat.le_trans kA.size hX.size, fun g hg => (hX.block g (Nat.lt_of_lt_of_le hg kA.size) (by omega)).trans (kA.block g hg)⟩
  obtain ⟨o, c, rfl, _⟩ := hv
  obtain ⟨b, hb⟩ : ∃ b, best p n = b := ⟨_, rfl⟩
  rw [hb] at hCh ⊢
  clear hp hRc hR hP0 hb
  go_enter Tryd.func10, Tryd.ntmps10
  go_upto_region 6 with (go_at_call 15; (with_reducible refine (hC.out _ hk0).mono ?_); rintro e w1 ⟨rfl, hk1⟩)
  have hsz : w.heap.size + 1 < w1.heap.size := Nat.lt_of_lt_of_le (Array.getElem?_eq_some_iff.1 HR.out).1 hk1.size
  have hRR := (hk1.block _ (Array.getElem?_eq_some_iff.1 HR.out).1).trans HR.out
  have hPP := (hk1.block _ (Array.getElem?_eq_some_iff.1 HP0.out).1).trans HP0.out
  have kA := (Kp.refl w1).alloc (.cells #[.slice none 0 0, .slice none 0 0, .slice none 0 0] 72)
  obtain ⟨⟨p0, p1, p2⟩, _⟩ := row3_facts ((kA.block _ (Array.getElem?_eq_some_iff.1 hPP).1).trans hPP)
  have HRR := Lib.hid hRR
  clear hRR hPP
  go_wp2_with (go_at_call 32; (with_reducible refine (hCh.out _ (hk0.trans hk1) hsz).mono ?_); rintro e w3 ⟨k3, n3, o3, m3, c3, cost3, rfl, H3, hk3⟩; have hz := (hk3.block _ hsz).trans HRR.out; have kz := (Kp.refl w3).alloc (.cells #[.int .i64 k3, .int .i64 n3, .slice o3 m3 c3] 28); have hz2 := (kz.block _ (Array.getElem?_eq_some_iff.1 hz).1).trans hz; obtain ⟨⟨r0, r1, r2⟩, s0, s1, s2⟩ := row3_facts hz2)
  exact bodyPost_ret (ret_order2 (p := 4) (u := 5) rfl _ _ (w.heap.size + 1) _ _ _ _ _ rfl (heap_set3 _ _ _ _ _ _ _ _ _ _ hz2)) rfl
    ⟨_, _, _, _, _, rfl, ((H3.out.kb (fun g h => h.2) (Kb.of kz)).kb (fun g h => h.2) (kb_set3 _ (w.heap.size + 1) _ _ _)).mono (fun g h => h.1), Kp.set3 (((hk0.trans hk1).trans hk3).trans kz) (by omega) _ _ _⟩
end Go.Proofs.YtgjlldapnodfbaaDoor
