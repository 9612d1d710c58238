/-
  The text of the order (f3 x f4), which the document fixes.
-/
import Derived.Test.YtgjlldapnodfbaaDoorOChoose
import Derived.Laws.BytesArg
namespace Go.Proofs.YtgjlldapnodfbaaDoor
open Go Go.RowKit Go.Fl Go.Ord Go.Pr Go.Maps

set_option maxRecDepth 100000 in
set_option maxHeartbeats 1000000 in
theorem digits3 (w : World) : Calls Tryd.prog 66 #[.int .i64 3] w fun e w' => e = .returned (.string ⟨#[51]⟩) ∧ Kp w w' := by
  go_enter Tryd.func66, Tryd.ntmps66
  go_wp2_with fail
  go_loopw [0, 3] (fun x y wr => (x = .int .i64 3 ∧ y = .string ⟨#[]⟩ ∧ Kp w wr) ∨ (x = .int .i64 0 ∧ y = .string ⟨#[51]⟩ ∧ Kp w wr)) (fun x _ _ => (intOf x).toNat)
  case atStart => exact .inl ⟨rfl, rfl, Kp.refl _⟩
  case round =>
    rcases hrel with ⟨rfl, rfl, hk⟩ | ⟨rfl, rfl, hk⟩
    · have hcv : (convert 110 9 (.slice (some ⟨wr.heap.size, 0, none⟩) 1 1)).run Tryd.prog (wr.alloc (.cells #[.int .u8 51] 5)) = .ok (.string ⟨#[51]⟩) (wr.alloc (.cells #[.int .u8 51] 5)) :=
        run_convert_bytes_arg _ 110 5 Tryd.underlying110 Tryd.underlying5 wr.heap.size 0 1 1 [51] rfl (fun i hi => by
          obtain rfl : i = 0 := by omega
          exact cell_of_row _ _ 0 _ _ _ (heap_alloc_new _ _)) _ Tryd.underlying9
      have e : ((⟨#[51]⟩ : ByteArray) ++ ⟨#[]⟩) = ⟨#[51]⟩ := by decide +kernel
      go_wp2_with fail
      exact ⟨.inr ⟨rfl, by first | rfl | rw [e], hk.alloc _⟩, by decide⟩
    · go_wp2_with fail
      go_ret
      exact ⟨rfl, hk⟩
set_option maxRecDepth 100000 in
set_option maxHeartbeats 1000000 in
theorem text3 (o : Option Addr) (c : Nat) (w : World) : Calls Tryd.prog 44 #[.agg #[.int .i64 2, .int .i64 3, .slice o 0 c]] w fun e w' => e = .returned (.string ⟨#[102, 51]⟩) ∧ Kp w w' := by
  have hD : Hid (∀ w', Calls Tryd.prog 66 #[.int .i64 3] w' fun e w'' => e = .returned (.string ⟨#[51]⟩) ∧ Kp w' w'') := Lib.hid digits3
  have e : ((⟨#[102]⟩ : ByteArray) ++ ⟨#[51]⟩) = ⟨#[102, 51]⟩ := by decide +kernel
  have E := Lib.hid e
  clear e
  go_enter Tryd.func44, Tryd.ntmps44
  go_wp2_with (go_at_call 66; (with_reducible refine (hD.out _).mono ?_); rintro e w1 ⟨rfl, hk1⟩)
  go_ret
  exact ⟨by first | rfl | rw [E.out] | (show Ending.returned (.string (_ ++ _)) = _; rw [E.out]), ((Kp.refl w).alloc _).trans hk1⟩
set_option maxRecDepth 100000 in
set_option maxHeartbeats 1000000 in
theorem digits4 (w : World) : Calls Tryd.prog 66 #[.int .i64 4] w fun e w' => e = .returned (.string ⟨#[52]⟩) ∧ Kp w w' := by
  go_enter Tryd.func66, Tryd.ntmps66
  go_wp2_with fail
  go_loopw [0, 3] (fun x y wr => (x = .int .i64 4 ∧ y = .string ⟨#[]⟩ ∧ Kp w wr) ∨ (x = .int .i64 0 ∧ y = .string ⟨#[52]⟩ ∧ Kp w wr)) (fun x _ _ => (intOf x).toNat)
  case atStart => exact .inl ⟨rfl, rfl, Kp.refl _⟩
  case round =>
    rcases hrel with ⟨rfl, rfl, hk⟩ | ⟨rfl, rfl, hk⟩
    · have hcv : (convert 110 9 (.slice (some ⟨wr.heap.size, 0, none⟩) 1 1)).run Tryd.prog (wr.alloc (.cells #[.int .u8 52] 5)) = .ok (.string ⟨#[52]⟩) (wr.alloc (.cells #[.int .u8 52] 5)) :=
        run_convert_bytes_arg _ 110 5 Tryd.underlying110 Tryd.underlying5 wr.heap.size 0 1 1 [52] rfl (fun i hi => by
          obtain rfl : i = 0 := by omega
          exact cell_of_row _ _ 0 _ _ _ (heap_alloc_new _ _)) _ Tryd.underlying9
      have e : ((⟨#[52]⟩ : ByteArray) ++ ⟨#[]⟩) = ⟨#[52]⟩ := by decide +kernel
      go_wp2_with fail
      exact ⟨.inr ⟨rfl, by first | rfl | rw [e], hk.alloc _⟩, by decide⟩
    · go_wp2_with fail
      go_ret
      exact ⟨rfl, hk⟩
set_option maxRecDepth 100000 in
set_option maxHeartbeats 1000000 in
theorem text4 (o : Option Addr) (c : Nat) (w : World) : Calls Tryd.prog 44 #[.agg #[.int .i64 2, .int .i64 4, .slice o 0 c]] w fun e w' => e = .returned (.string ⟨#[102, 52]⟩) ∧ Kp w w' := by
  have hD : Hid (∀ w', Calls Tryd.prog 66 #[.int .i64 4] w' fun e w'' => e = .returned (.string ⟨#[52]⟩) ∧ Kp w' w'') := Lib.hid digits4
  have e : ((⟨#[102]⟩ : ByteArray) ++ ⟨#[52]⟩) = ⟨#[102, 52]⟩ := by decide +kernel
  have E := Lib.hid e
  clear e
  go_enter Tryd.func44, Tryd.ntmps44
  go_wp2_with (go_at_call 66; (with_reducible refine (hD.out _).mono ?_); rintro e w1 ⟨rfl, hk1⟩)
  go_ret
  exact ⟨by first | rfl | rw [E.out] | (show Ending.returned (.string (_ ++ _)) = _; rw [E.out]), ((Kp.refl w).alloc _).trans hk1⟩
theorem leaf_in {w : World} {k n : Int} {v : Value} (h : OIn w (leaf k n) v) : ∃ o c, v = .agg #[.int .i64 k, .int .i64 n, .slice o 0 c] := by
  obtain ⟨o, c, e, _⟩ := h
  exact ⟨o, c, e⟩
def t34 : Tr := (leaf 2 3).times (leaf 2 4)
theorem t34_in {w : World} {v : Value} (h : OIn w t34 v) : ∃ g off c o1 c1 o2 c2, v = .agg #[.int .i64 3, .int .i64 0, .slice (some ⟨g, off, none⟩) 2 c] ∧ g < w.heap.size ∧
    (w.cell? ⟨g, off, none⟩ = some (.int .i64 2) ∧ w.cell? ⟨g, off + 1, none⟩ = some (.int .i64 3) ∧ w.cell? ⟨g, off + 2, none⟩ = some (.slice o1 0 c1)) ∧
    (w.cell? ⟨g, off + 3, none⟩ = some (.int .i64 2) ∧ w.cell? ⟨g, off + 4, none⟩ = some (.int .i64 4) ∧ w.cell? ⟨g, off + 5, none⟩ = some (.slice o2 0 c2)) := by
  obtain ⟨o, c, e, _, hk⟩ := h
  obtain ⟨g, off, rfl, hg, hc⟩ := hk (by decide)
  obtain ⟨a, b, s, q1, q2, q3, h1⟩ := hc 0 (by decide)
  obtain ⟨a', b', s', q4, q5, q6, h2⟩ := hc 1 (by decide)
  obtain ⟨o1, c1, e1⟩ := leaf_in (show OIn w (leaf 2 3) _ from h1)
  obtain ⟨o2, c2, e2⟩ := leaf_in (show OIn w (leaf 2 4) _ from h2)
  simp at e1 e2
  obtain ⟨rfl, rfl, rfl⟩ := e1
  obtain ⟨rfl, rfl, rfl⟩ := e2
  simp only [Nat.zero_mul, Nat.add_zero, Nat.one_mul] at q1 q2 q3 q4 q5 q6
  exact ⟨g, off, c, o1, c1, o2, c2, e, hg, ⟨q1, q2, q3⟩, q4, q5, q6⟩
set_option maxRecDepth 100000 in
set_option maxHeartbeats 2000000 in
theorem text34 (v : Value) (w : World) (h : OIn w t34 v) : Calls Tryd.prog 44 #[v] w fun e w' => e = .returned (.string ⟨#[40, 102, 51, 32, 120, 32, 102, 52, 41]⟩) ∧ Kp w w' := by
  obtain ⟨g, off, c, o1, c1, o2, c2, rfl, hg, ⟨q1, q2, q3⟩, q4, q5, q6⟩ := t34_in h
  have h3 : Hid (∀ w', Calls Tryd.prog 44 #[.agg #[.int .i64 2, .int .i64 3, .slice o1 0 c1]] w' fun e w'' => e = .returned (.string ⟨#[102, 51]⟩) ∧ Kp w' w'') := Lib.hid (text3 o1 c1)
  have h4 : Hid (∀ w', Calls Tryd.prog 44 #[.agg #[.int .i64 2, .int .i64 4, .slice o2 0 c2]] w' fun e w'' => e = .returned (.string ⟨#[102, 52]⟩) ∧ Kp w' w'') := Lib.hid (text4 o2 c2)
  have hA := heap_alloc_new w (.cells #[.int .i64 3, .int .i64 0, .slice (some ⟨g, off, none⟩) 2 c] 28)
  have k0 := (Kp.refl w).alloc (.cells #[.int .i64 3, .int .i64 0, .slice (some ⟨g, off, none⟩) 2 c] 28)
  obtain ⟨⟨b0, b1, b2⟩, _⟩ := row3_facts hA
  have HK0 := Lib.hid k0
  have q1 := k0.later q1
  have q2 := k0.later q2
  have q3 := k0.later q3
  have q4 := k0.later q4
  have q5 := k0.later q5
  have q6 := k0.later q6
  have e1 : (((((⟨#[40]⟩ : ByteArray) ++ ⟨#[102, 51]⟩) ++ ⟨#[32, 120, 32]⟩) ++ ⟨#[102, 52]⟩) ++ ⟨#[41]⟩) = ⟨#[40, 102, 51, 32, 120, 32, 102, 52, 41]⟩ := by decide +kernel
  have E1 := Lib.hid e1
  clear h k0 hA e1
  go_enter Tryd.func44, Tryd.ntmps44
  go_upto_region 7 with fail
  generalize w.alloc (.cells #[.int .i64 3, .int .i64 0, .slice (some ⟨g, off, none⟩) 2 c] 28) = W1 at *
  obtain ⟨B, hB⟩ : ∃ B, w.heap.size = B := ⟨_, rfl⟩
  simp only [hB] at b2 ⊢
  have HB2 : Hid (∀ w', Kp W1 w' → w'.cell? ⟨B, 2, none⟩ = some (.slice (some ⟨g, off, none⟩) 2 c) ∧ w'.cell? ⟨g, off, none⟩ = some (.int .i64 2) ∧ w'.cell? ⟨g, off + 1, none⟩ = some (.int .i64 3) ∧ w'.cell? ⟨g, off + 2, none⟩ = some (.slice o1 0 c1) ∧ w'.cell? ⟨g, off + 3, none⟩ = some (.int .i64 2) ∧ w'.cell? ⟨g, off + 4, none⟩ = some (.int .i64 4) ∧ w'.cell? ⟨g, off + 5, none⟩ = some (.slice o2 0 c2)) :=
    Lib.hid fun w' k => ⟨k.later b2, k.later q1, k.later q2, k.later q3, k.later q4, k.later q5, k.later q6⟩
  have kd : Kp W1 W1.drew := (Kp.refl W1).drew
  clear b0 b1 hg hB
  go_region_held3 (fun w' => w'.cell? ⟨B, 2, none⟩ = some (.slice (some ⟨g, off, none⟩) 2 c) ∧ w'.cell? ⟨g, off, none⟩ = some (.int .i64 2) ∧ w'.cell? ⟨g, off + 1, none⟩ = some (.int .i64 3) ∧ w'.cell? ⟨g, off + 2, none⟩ = some (.slice o1 0 c1) ∧ w'.cell? ⟨g, off + 3, none⟩ = some (.int .i64 2) ∧ w'.cell? ⟨g, off + 4, none⟩ = some (.int .i64 4) ∧ w'.cell? ⟨g, off + 5, none⟩ = some (.slice o2 0 c2)) (first | go_keep | exact HB2.out _ (kd.trans hk1) | exact HB2.out _ ((kd.trans hk1).trans hk2)) (first
    | (go_at_call 44; (with_reducible refine (h3.out _).mono ?_); rintro e w2 ⟨rfl, hk1⟩)
    | (go_at_call 44; (with_reducible refine (h4.out _).mono ?_); rintro e w3 ⟨rfl, hk2⟩))
  go_wp2_with fail
  go_ret
  exact ⟨by rw [E1.out]; rfl, HK0.out.trans ((kd.trans hk1).trans hk2)⟩
theorem t34_Len : t34.Len = 12 := by decide +kernel
set_option maxRecDepth 100000 in
set_option maxHeartbeats 1000000 in
theorem Text34 (v : Value) (w : World) (h : OIn w t34 v) : Calls Tryd.prog 29 #[v] w fun e w' => e = .returned (.tuple #[.string ⟨#[40, 102, 51, 32, 120, 32, 102, 52, 41]⟩, .int .i64 0]) ∧ Kp w w' := by
  have HC : Hid (∀ w', Kp w w' → Calls Tryd.prog 35 #[v] w' fun e w'' => e = .returned (.int .i64 0) ∧ Kp w' w'') := Lib.hid fun w' k => by
    have := rCheck_any t34 v w' (h.kp k)
    rw [t34_Len, if_neg (by decide)] at this
    exact this
  have HT : Hid (∀ w', Kp w w' → Calls Tryd.prog 44 #[v] w' fun e w'' => e = .returned (.string ⟨#[40, 102, 51, 32, 120, 32, 102, 52, 41]⟩) ∧ Kp w' w'') := Lib.hid fun w' k => text34 v w' (h.kp k)
  obtain ⟨k, n, m, o, c, rfl⟩ := h.form
  have hA := heap_alloc_new w (.cells #[.int .i64 k, .int .i64 n, .slice o m c] 28)
  have k0 := (Kp.refl w).alloc (.cells #[.int .i64 k, .int .i64 n, .slice o m c] 28)
  clear h
  go_enter Tryd.func29, Tryd.ntmps29
  go_wp2_with (first
    | (go_at_call 35; (with_reducible refine (HC.out _ k0).mono ?_); rintro e w1 ⟨rfl, hk1⟩; obtain ⟨⟨b0, b1, b2⟩, _⟩ := row3_facts ((hk1.block _ (Array.getElem?_eq_some_iff.1 hA).1).trans hA))
    | (go_at_call 44; (with_reducible refine (HT.out _ (k0.trans hk1)).mono ?_); rintro e w2 ⟨rfl, hk2⟩))
  go_ret2
  exact ⟨rfl, (k0.trans hk1).trans hk2⟩
end Go.Proofs.YtgjlldapnodfbaaDoor
