/-
  The walks of the reference of layer 10: Conj, One, Forward, Inverse, Slide.
-/
import Derived.Test.YtmadbdecbkmjkaaDoorDRef
import Derived.Maps.AppendAt
namespace Go.Proofs.YtmadbdecbkmjkaaDoor
open Go Go.RowKit Go.Fl Go.Roots

/-- A list of the call's own that reads as f. -/
def CO (w : World) (base : Nat) (v : Value) (n : Nat) (f : Nat → Nat × Nat) : Prop := ∃ xs, w.ownsRow base 27 1 v n xs ∧ PartC f xs n
theorem CO.kp {w w' : World} {base : Nat} {v : Value} {n : Nat} {f : Nat → Nat × Nat} (h : CO w base v n f) (k : Kp w w') : CO w' base v n f := by
  obtain ⟨xs, h1, h2⟩ := h; exact ⟨xs, k.owns h1, h2⟩
theorem CO.mono {w : World} {base base' : Nat} {v : Value} {n : Nat} {f : Nat → Nat × Nat} (h : CO w base v n f) (hb : base' ≤ base) : CO w base' v n f := by
  obtain ⟨xs, h1, h2⟩ := h; exact ⟨xs, owns_mono h1 hb, h2⟩
/-- A slice that reads as f. -/
def Rd (w : World) (o : Option Addr) (n : Nat) (f : Nat → Nat × Nat) : Prop := 0 < n → ∃ g, o = some ⟨g, 0, none⟩ ∧ Has w g n f
theorem Rd.kp {w w' : World} {o : Option Addr} {n : Nat} {f : Nat → Nat × Nat} (h : Rd w o n f) (k : Kp w w') : Rd w' o n f := fun hn => by
  obtain ⟨g, h1, h2⟩ := h hn; exact ⟨g, h1, h2.kp k⟩
theorem CO.rd {w : World} {base : Nat} {v : Value} {n : Nat} {f : Nat → Nat × Nat} (h : CO w base v n f) : ∃ o c, v = .slice o n c ∧ Rd w o n f := by
  obtain ⟨xs, h1, h2⟩ := h
  rcases h1.2 with ⟨rfl, rfl⟩ | ⟨g, cap, cur, rfl, r⟩
  · exact ⟨_, _, rfl, fun h => absurd h (by omega)⟩
  · exact ⟨_, _, rfl, fun _ => ⟨g, rfl, Has.own h1 (Nat.le_refl _) h2⟩⟩
theorem CO.some {w : World} {base : Nat} {v : Value} {n : Nat} {f : Nat → Nat × Nat} (h : CO w base v n f) (hn : 0 < n) : ∃ g c, v = .slice (Option.some ⟨g, 0, Option.none⟩) n c ∧ Has w g n f := by
  obtain ⟨xs, h1, h2⟩ := h
  obtain ⟨g, c, rfl⟩ := owns_form h1 hn
  exact ⟨g, c, rfl, Has.own h1 (Nat.le_refl _) h2⟩
theorem owns_empty (w : World) : (w.alloc (.cells #[] 27)).ownsRow w.heap.size 27 1 (.slice (some ⟨w.heap.size, 0, none⟩) 0 0) 0 [] :=
  World.ownsRow_lit (base := w.heap.size) (e := 27) (size := 1) w #[] 0 (Nat.le_refl _) (by decide) rfl

set_option maxRecDepth 100000 in
set_option maxHeartbeats 1000000 in
theorem rConj_any (o : Option Addr) (n cap : Nat) (f : Nat → Nat × Nat) (w : World) (hn : n ≤ 8796093022207) (hf : Rd w o n f) :
    Calls Tryd.prog 37 #[.slice o n cap] w fun e w' => ∃ v, e = .returned v ∧ CO w' w.heap.size v n (fun j => conj (f j)) ∧ Kp w w' := by
  obtain ⟨i0, hi, hz0, hz1, hz2⟩ := info_parts info_c
  have hown0 := owns_empty w
  have hk0 : Kp w (w.alloc (.cells #[] 27)) := (Kp.refl w).alloc _
  go_enter Tryd.func37, Tryd.ntmps37
  go_wp2_with fail
  go_loopw [3, 5, 9] (fun v _ i wr => ∃ (k : Nat) (xs : List Value), k ≤ n ∧ i = .int .i64 k ∧ wr.ownsRow w.heap.size 27 1 v k xs ∧ PartC (fun j => conj (f j)) xs k ∧ Kp w wr) (fun _ _ i _ => n - (intOf i).toNat)
  case atStart => exact ⟨0, [], by omega, rfl, hown0, fun j hj => absurd hj (by omega), hk0⟩
  case round =>
    clear hown0 hk0
    obtain ⟨k, xs, hk, rfl, hown, hp, hkp⟩ := hrel
    have hlen := hown.1
    by_cases hlt : k < n
    · obtain ⟨g, rfl, hfg⟩ := hf (by omega)
      obtain ⟨c, s, q0, hc, hs⟩ := hfg.kp hkp k hlt
      go_wp2_with (at_builtin; refine wpList_append_own _ rfl _ _ 26 rfl w.heap.size 27 i0 (.complex .f64 0 0) 1 16 Tryd.underlying26 hi hz0 hz1 hz2 rfl (by decide) _ _ _ rfl (hown.alloc _) ⟨wr.heap.size, 0, none⟩ 1 1 [.complex .f64 c (Op.negFloat .f64 s)] rfl rfl ?c1 ?c2 ?c3 ?c4 ?c5 ?_)
      case c1 => exact cell_one_new _ _ _
      case c2 => simp [Value.oneCell']
      case c3 => unfold maxLen; omega
      case c4 => omega
      case c5 => have e1 := hkp.size; simp; omega
      intro v' w5 hown5 hg _
      have hk5 : Kp w w5 := (hkp.alloc _).grown hg (fun j hj => (hown.lt j hj).1)
      have hp5 := hp.snoc (c := c) (s := Op.negFloat .f64 s) (by simpa using hlen) hc (by rw [cn_negFloat, hs]; rfl)
      clear hg hc hs q0 hfg
      go_wp2_with fail
      go_roundw
      case rel => exact ⟨k + 1, _, by omega, by go_num, hown5, hp5, hk5⟩
      case measure => simp [intOf]; omega
    · obtain rfl : k = n := by omega
      go_wp2_with fail
      go_ret
      exact ⟨_, rfl, ⟨xs, hown, hp⟩, hkp⟩
set_option maxRecDepth 100000 in
set_option maxHeartbeats 1000000 in
theorem rForward_any (o : Option Addr) (n cap : Nat) (f : Nat → Nat × Nat) (w : World) (n1 : 1 ≤ n) (n2 : n ≤ 1024) (hf : Rd w o n f) :
    Calls Tryd.prog 15 #[.slice o n cap] w fun e w' => ∃ v, e = .returned (.tuple #[v, .int .i64 0]) ∧ CO w' w.heap.size v n (fun k => dft f n k) ∧ Kp w w' := by
  obtain ⟨i0, hi, hz0, hz1, hz2⟩ := info_parts info_c
  obtain ⟨g, rfl, hfg⟩ := hf (by omega)
  have hown0 := owns_empty w
  have hk0 : Kp w (w.alloc (.cells #[] 27)) := (Kp.refl w).alloc _
  have b1 : decide ((n : Int) < 1) = false := by simp; omega
  have b2 : decide ((1024 : Int) < n) = false := by simp; omega
  have HF := Lib.hid hfg
  clear hfg hf
  go_enter Tryd.func15, Tryd.ntmps15
  go_wp2_with fail
  go_loopw [5, 6] (fun v i wr => ∃ (k : Nat) (xs : List Value), k ≤ n ∧ i = .int .i64 k ∧ wr.ownsRow w.heap.size 27 1 v k xs ∧ PartC (fun k => dft f n k) xs k ∧ Kp w wr) (fun _ i _ => n - (intOf i).toNat)
  case atStart => exact ⟨0, [], by omega, rfl, hown0, fun j hj => absurd hj (by omega), hk0⟩
  case round =>
    clear hown0 hk0
    obtain ⟨k, xs, hk, rfl, hown, hp, hkp⟩ := hrel
    have hlen := hown.1
    by_cases hlt : k < n
    · have hA := fun w' (h : Kp w w') => rAt_any g n cap 0 1 n k f w' n1 n2 (by omega) (fun j hj => by omega) (HF.out.kp h)
      have HA : Hid (∀ w', Kp w w' → Calls Tryd.prog 35 #[.slice (some ⟨g, 0, none⟩) n cap, .int .i64 0, .int .i64 1, .int .i64 n, .int .i64 k] w' fun e w'' => ∃ c s, e = .returned (.complex .f64 c s) ∧ cn c = (dft f n k).1 ∧ cn s = (dft f n k).2 ∧ Kp w' w'') := Lib.hid fun w' h => by
        have := hA w' h
        simp only [Nat.zero_add, Nat.mul_one] at this
        exact this
      clear hA
      go_wp2_with (first
        | (go_at_call 35; (with_reducible refine (HA.out _ hkp).mono ?_); rintro e w2 ⟨c, s, rfl, hc, hs, hk2⟩; have hown2 := hk2.owns hown; have hkp2 := hkp.trans hk2; clear hkp hown hk2)
        | (at_builtin; refine wpList_append_own _ rfl _ _ 26 rfl w.heap.size 27 i0 (.complex .f64 0 0) 1 16 Tryd.underlying26 hi hz0 hz1 hz2 rfl (by decide) _ _ _ rfl (hown2.alloc _) ⟨w2.heap.size, 0, none⟩ 1 1 [.complex .f64 c s] rfl rfl ?c1 ?c2 ?c3 ?c4 ?c5 ?_))
      case c1 => exact cell_one_new _ _ _
      case c2 => simp [Value.oneCell']
      case c3 => unfold maxLen; omega
      case c4 => omega
      case c5 => have e1 := hkp2.size; simp; omega
      intro v' w5 hown5 hg _
      have hk5 : Kp w w5 := (hkp2.alloc _).grown hg (fun j hj => (hown2.lt j hj).1)
      have hp5 := hp.snoc (c := c) (s := s) (by simpa using hlen) hc hs
      clear hg hc hs
      go_wp2_with fail
      go_roundw
      case rel => exact ⟨k + 1, _, by omega, by go_num, hown5, hp5, hk5⟩
      case measure => simp [intOf]; omega
    · obtain rfl : k = n := by omega
      go_wp2_with fail
      go_ret2
      exact ⟨_, rfl, ⟨xs, hown, hp⟩, hkp⟩
theorem rForward_bad (o : Option Addr) (n cap : Nat) (w : World) (h : n < 1 ∨ 1024 < n) :
    Calls Tryd.prog 15 #[.slice o n cap] w fun e w' => e = .returned (.tuple #[.slice none 0 0, .int .i64 7]) ∧ w = w' := by
  rcases h with h | h
  · have b1 : decide ((n : Int) < 1) = true := by simp; omega
    go_enter Tryd.func15, Tryd.ntmps15
    go_wp2_with fail
    go_ret2
    exact ⟨rfl, rfl⟩
  · have b1 : decide ((n : Int) < 1) = false := by simp; omega
    have b2 : decide ((1024 : Int) < n) = true := by simp; omega
    go_enter Tryd.func15, Tryd.ntmps15
    go_wp2_with fail
    go_ret2
    exact ⟨rfl, rfl⟩
end Go.Proofs.YtmadbdecbkmjkaaDoor
