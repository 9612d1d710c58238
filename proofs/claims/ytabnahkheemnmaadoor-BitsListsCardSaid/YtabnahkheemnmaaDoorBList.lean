/-
  The walks of SameList (both), of the statements' floats, and of BitsLists.
-/
import Derived.Test.YtabnahkheemnmaaDoorBTwo
import Derived.Test.YtabnahkheemnmaaDoorOpen
import Derived.Maps.AppendAt
namespace Go.Proofs.YtabnahkheemnmaaDoor
open Go Go.RowKit Go.Fl

/-- Floats lie there, as numbers f. -/
def Lf (w : World) (o : Option Addr) (n : Nat) (f : Nat → Nat) : Prop := 0 < n → ∃ g off, o = some ⟨g, off, none⟩ ∧ ∀ j, j < n → ∃ c, w.cell? ⟨g, off + j, none⟩ = some (.float .f64 c) ∧ cn c = f j
theorem Lf.kp {w w' : World} {o : Option Addr} {n : Nat} {f : Nat → Nat} (h : Lf w o n f) (k : Kp w w') : Lf w' o n f := fun hn => by
  obtain ⟨g, off, h1, h2⟩ := h hn
  exact ⟨g, off, h1, fun j hj => by obtain ⟨c, h3, h4⟩ := h2 j hj; exact ⟨c, k.later h3, h4⟩⟩
set_option maxHeartbeats 400000 in
theorem bSameList_len (oa ob : Option Addr) (n m ca cb : Nat) (w : World) (h : n ≠ m) :
    Calls Tryd.prog 31 #[.slice oa n ca, .slice ob m cb] w fun e w' => e = .returned (.bool false) ∧ Kp w w' := by
  have h1 : ((n : Int) != (m : Int)) = true := by simp; omega
  go_enter Tryd.func31, Tryd.ntmps31
  go_wp2_with fail
  go_ret
  exact ⟨rfl, Kp.refl w⟩
set_option maxHeartbeats 400000 in
theorem rSameList_len (oa ob : Option Addr) (n m ca cb : Nat) (w : World) (h : n ≠ m) :
    Calls Tryd.prog 32 #[.slice oa n ca, .slice ob m cb] w fun e w' => e = .returned (.bool false) ∧ Kp w w' := by
  have h1 : ((n : Int) != (m : Int)) = true := by simp; omega
  go_enter Tryd.func32, Tryd.ntmps32
  go_wp2_with fail
  go_ret
  exact ⟨rfl, Kp.refl w⟩
set_option maxRecDepth 100000 in
set_option maxHeartbeats 1000000 in
theorem bSameList_any (oa ob : Option Addr) (n ca cb : Nat) (f g : Nat → Nat) (t : Bool) (w : World) (hn : n ≤ 17592186044416) (ha : Lf w oa n f) (hb : Lf w ob n g) (ht : t = true ↔ ∀ j, j < n → f j = g j) :
    Calls Tryd.prog 31 #[.slice oa n ca, .slice ob n cb] w fun e w' => e = .returned (.bool t) ∧ Kp w w' := by
  have HT := Lib.hid ht
  clear ht
  go_enter Tryd.func31, Tryd.ntmps31
  go_wp2_with fail
  go_loopw [5, 6, 14] (fun _ _ c wr => ∃ (k : Nat), k ≤ n ∧ c = .int .i64 k ∧ Hid (∀ j, j < k → f j = g j) ∧ Kp w wr) (fun _ _ c _ => n - (intOf c).toNat)
  case atStart => exact ⟨0, by omega, rfl, Lib.hid fun j hj => absurd hj (by omega), Kp.refl _⟩
  case round =>
    obtain ⟨k, hk, rfl, HP, hkp⟩ := hrel
    by_cases hlt : k < n
    · obtain ⟨ga, oa', rfl, hA⟩ := ha (by omega)
      obtain ⟨gb, ob', rfl, hB⟩ := hb (by omega)
      obtain ⟨c1, q1, hc1⟩ := hA k hlt
      obtain ⟨c2, q2, hc2⟩ := hB k hlt
      have q1 := hkp.later q1
      have q2 := hkp.later q2
      by_cases he : cn c1 = cn c2
      · have S : Hid (∀ w, Calls Tryd.prog 15 #[.float .f64 c1, .float .f64 c2] w fun e w' => e = .returned (.bool true) ∧ w = w') := Lib.hid fun w => by
          have := bSame_any c1 c2 w; rw [decide_eq_true he] at this; exact this
        have HP2 : Hid (∀ j, j < k + 1 → f j = g j) := Lib.hid fun j hj => by
          by_cases e : j = k
          · subst e; rw [← hc1, ← hc2, he]
          · exact HP.out j (by omega)
        clear hc1 hc2 hA hB ha hb he
        go_wp2_with (go_at_call 15; (with_reducible refine (S.out _).mono ?_); rintro e w1 ⟨rfl, rfl⟩)
        go_roundw
        case rel => exact ⟨k + 1, by omega, by go_num, HP2, hkp⟩
        case measure => simp [intOf]; omega
      · have S : Hid (∀ w, Calls Tryd.prog 15 #[.float .f64 c1, .float .f64 c2] w fun e w' => e = .returned (.bool false) ∧ w = w') := Lib.hid fun w => by
          have := bSame_any c1 c2 w; rw [decide_eq_false he] at this; exact this
        obtain rfl : t = false := by
          cases t with
          | false => rfl
          | true => exact absurd ((HT.out.1 rfl) k hlt) (by rw [← hc1, ← hc2]; exact he)
        clear hc1 hc2 hA hB ha hb he
        go_wp2_with (go_at_call 15; (with_reducible refine (S.out _).mono ?_); rintro e w1 ⟨rfl, rfl⟩)
        go_ret
        exact ⟨rfl, hkp⟩
    · obtain rfl : k = n := by omega
      obtain rfl : t = true := HT.out.2 HP.out
      go_wp2_with fail
      go_ret
      exact ⟨rfl, hkp⟩
set_option maxRecDepth 100000 in
set_option maxHeartbeats 1000000 in
theorem rSameList_any (oa ob : Option Addr) (n ca cb : Nat) (f g : Nat → Nat) (t : Bool) (w : World) (hn : n ≤ 17592186044416) (ha : Lf w oa n f) (hb : Lf w ob n g) (ht : t = true ↔ ∀ j, j < n → f j = g j) :
    Calls Tryd.prog 32 #[.slice oa n ca, .slice ob n cb] w fun e w' => e = .returned (.bool t) ∧ Kp w w' := by
  have HT := Lib.hid ht
  clear ht
  go_enter Tryd.func32, Tryd.ntmps32
  go_wp2_with fail
  go_loopw [5, 6, 14] (fun _ _ c wr => ∃ (k : Nat), k ≤ n ∧ c = .int .i64 k ∧ Hid (∀ j, j < k → f j = g j) ∧ Kp w wr) (fun _ _ c _ => n - (intOf c).toNat)
  case atStart => exact ⟨0, by omega, rfl, Lib.hid fun j hj => absurd hj (by omega), Kp.refl _⟩
  case round =>
    obtain ⟨k, hk, rfl, HP, hkp⟩ := hrel
    by_cases hlt : k < n
    · obtain ⟨ga, oa', rfl, hA⟩ := ha (by omega)
      obtain ⟨gb, ob', rfl, hB⟩ := hb (by omega)
      obtain ⟨c1, q1, hc1⟩ := hA k hlt
      obtain ⟨c2, q2, hc2⟩ := hB k hlt
      have q1 := hkp.later q1
      have q2 := hkp.later q2
      by_cases he : cn c1 = cn c2
      · have S : Hid (∀ w, Calls Tryd.prog 16 #[.float .f64 c1, .float .f64 c2] w fun e w' => e = .returned (.bool true) ∧ w' = w) := Lib.hid fun w => by
          have := rSame_any c1 c2 w; rw [decide_eq_true he] at this; exact this.mono fun e w' ⟨h1, h2⟩ => ⟨h1, h2.symm⟩
        have HP2 : Hid (∀ j, j < k + 1 → f j = g j) := Lib.hid fun j hj => by
          by_cases e : j = k
          · subst e; rw [← hc1, ← hc2, he]
          · exact HP.out j (by omega)
        clear hc1 hc2 hA hB ha hb he
        go_wp2_with fail
        go_quiet ((go_at_call 16; exact Calls.quiet_of_same (S.out _)))
        go_wp2_with fail
        go_roundw
        case rel => exact ⟨k + 1, by omega, by go_num, HP2, hkp.drewN nq⟩
        case measure => simp [intOf]; omega
      · have S : Hid (∀ w, Calls Tryd.prog 16 #[.float .f64 c1, .float .f64 c2] w fun e w' => e = .returned (.bool false) ∧ w' = w) := Lib.hid fun w => by
          have := rSame_any c1 c2 w; rw [decide_eq_false he] at this; exact this.mono fun e w' ⟨h1, h2⟩ => ⟨h1, h2.symm⟩
        obtain rfl : t = false := by
          cases t with
          | false => rfl
          | true => exact absurd ((HT.out.1 rfl) k hlt) (by rw [← hc1, ← hc2]; exact he)
        clear hc1 hc2 hA hB ha hb he
        go_wp2_with fail
        go_quiet ((go_at_call 16; exact Calls.quiet_of_same (S.out _)))
        go_wp2_with fail
        go_ret
        exact ⟨rfl, hkp.drewN nq⟩
    · obtain rfl : k = n := by omega
      obtain rfl : t = true := HT.out.2 HP.out
      go_wp2_with fail
      go_ret
      exact ⟨rfl, hkp⟩
/-- The floats of these words. -/
def fls (bs : Nat → Int) (n : Nat) : List Value := (List.range n).map fun j => Value.float .f64 (bs j).toNat
theorem fls_succ (bs : Nat → Int) (n : Nat) : fls bs (n + 1) = fls bs n ++ [.float .f64 (bs n).toNat] := by unfold fls; rw [List.range_succ, List.map_append]; rfl
theorem fls_length (bs : Nat → Int) (n : Nat) : (fls bs n).length = n := by simp [fls]
theorem fls_get (bs : Nat → Int) (n j : Nat) (h : j < n) : (fls bs n)[j]? = some (.float .f64 (bs j).toNat) := by simp [fls, h]
theorem owns_emptyf (w : World) : (w.alloc (.cells #[] 24)).ownsRow w.heap.size 24 1 (.slice (some ⟨w.heap.size, 0, none⟩) 0 0) 0 [] :=
  World.ownsRow_lit (base := w.heap.size) (e := 24) (size := 1) w #[] 0 (Nat.le_refl _) (by decide) rfl
theorem info_bf : (Tryd.prog.info? 24).map (fun i => (i.zero, i.size, i.bytes)) = some (some (.float .f64 0), 1, 8) := by kernel_rfl
theorem bof_int (a : Int) (w : World) :
    Calls Tryd.prog 11 #[.int .u64 a] w fun e w' => e = .returned (.float .f64 a.toNat) ∧ w = w' := by
  go_enter Tryd.func11, Tryd.ntmps11
  go_wp2_with fail
  go_ret
  exact ⟨rfl, rfl⟩
set_option maxRecDepth 100000 in
set_option maxHeartbeats 1000000 in
theorem floats_any (o : Option Addr) (n cap : Nat) (bs : Nat → Int) (w : World) (hn : n ≤ 17592186044416) (hb : NumS .u64 w o n bs) :
    Calls Tryd.prog 30 #[.slice o n cap] w fun e w' => ∃ g c, e = .returned (.slice (some ⟨g, 0, none⟩) n c) ∧ w'.ownsRow w.heap.size 24 1 (.slice (some ⟨g, 0, none⟩) n c) n (fls bs n) ∧ Kp w w' := by
  obtain ⟨i0, hi, hz0, hz1, hz2⟩ := info_parts info_bf
  have hown0 := owns_emptyf w
  have hk0 : Kp w (w.alloc (.cells #[] 24)) := (Kp.refl w).alloc _
  go_enter Tryd.func30, Tryd.ntmps30
  go_wp2_with fail
  go_loopw [3, 5, 9] (fun v _ i wr => ∃ (k : Nat), k ≤ n ∧ i = .int .i64 k ∧ wr.ownsRow w.heap.size 24 1 v k (fls bs k) ∧ (v = .slice (some ⟨w.heap.size, 0, none⟩) 0 0 ∨ 0 < k) ∧ Kp w wr) (fun _ _ i _ => n - (intOf i).toNat)
  case atStart => exact ⟨0, by omega, rfl, hown0, Or.inl rfl, hk0⟩
  case round =>
    clear hown0 hk0
    obtain ⟨k, hk, rfl, hown, hnil, hkp⟩ := hrel
    have HNIL := Lib.hid hnil
    clear hnil
    by_cases hlt : k < n
    · obtain ⟨g, off, rfl, hgl, hbs⟩ := hb (by omega)
      have q1 := hkp.later (hbs k hlt)
      clear hbs
      go_wp2_with (first
        | (go_at_call 11; (with_reducible refine (bof_int _ _).mono ?_); rintro e w1 ⟨rfl, rfl⟩)
        | (at_builtin; refine wpList_append_own _ rfl _ _ 49 rfl w.heap.size 24 i0 (.float .f64 0) 1 8 Tryd.underlying49 hi hz0 hz1 hz2 rfl (by decide) _ _ _ rfl (hown.alloc _) ⟨wr.heap.size, 0, none⟩ 1 1 [.float .f64 (bs k).toNat] rfl rfl ?c1 ?c2 ?c3 ?c4 ?c5 ?_))
      case c1 => exact cell_one_new _ _ _
      case c2 => simp [Value.oneCell']
      case c3 => unfold maxLen; omega
      case c4 => omega
      case c5 => have e1 := hkp.size; simp; omega
      intro v' w5 hown5 hg _
      have hk5 : Kp w w5 := (hkp.alloc _).grown hg (fun j hj => (hown.lt j hj).1)
      rw [← fls_succ] at hown5
      clear hg q1
      go_wp2_with fail
      go_roundw
      case rel => exact ⟨k + 1, by omega, by go_num, hown5, Or.inr (by omega), hk5⟩
      case measure => simp [intOf]; omega
    · obtain rfl : k = n := by omega
      go_wp2_with fail
      go_ret
      rcases HNIL.out with h | h
      · have hk0 : k = 0 := by
          rcases hown.2 with ⟨h2, h3⟩ | ⟨_, _, _, h2, _⟩
          · exact h3
          · rw [h] at h2; injection h2 with _ h4; exact h4.symm
        subst h; subst hk0
        exact ⟨_, _, rfl, hown, hkp⟩
      · obtain ⟨g, c, rfl⟩ := owns_form hown h
        exact ⟨g, c, rfl, hown, hkp⟩
end Go.Proofs.YtabnahkheemnmaaDoor
