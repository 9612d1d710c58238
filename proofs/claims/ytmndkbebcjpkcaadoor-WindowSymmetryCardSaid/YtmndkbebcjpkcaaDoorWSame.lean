/-
  The walks of the references' SameList, Window and Name.
-/
import Derived.Test.YtmndkbebcjpkcaaDoorWWin
import Derived.Test.YtmndkbebcjpkcaaDoorSame
import Derived.Test.YtmndkbebcjpkcaaDoorRRef2T
namespace Go.Proofs.YtmndkbebcjpkcaaDoor
open Go Go.RowKit Go.Fl Go.Roots

set_option maxRecDepth 100000 in
set_option maxHeartbeats 400000 in
theorem SameList_yes (ga gb n ca cb base : Nat) (f : Nat → Nat) (xa xb : List Value) (w : World) (hn : n ≤ 1099511627776)
    (ha : w.ownsRow base 34 1 (.slice (some ⟨ga, 0, none⟩) n ca) n xa) (hb : w.ownsRow base 34 1 (.slice (some ⟨gb, 0, none⟩) n cb) n xb) (pa : PartF f xa n) (pb : PartF f xb n) :
    Calls Tryd.prog 20 #[.slice (some ⟨ga, 0, none⟩) n ca, .slice (some ⟨gb, 0, none⟩) n cb] w fun e w' => e = .returned (.bool true) ∧ Kp w w' := by
  have la := ha.1
  go_enter Tryd.func20, Tryd.ntmps20
  go_wp2_with fail
  go_loopw [5, 6, 14] (fun _ _ c wr => ∃ (k : Nat), k ≤ n ∧ c = .int .i64 k ∧ Kp w wr) (fun _ _ c _ => n - (intOf c).toNat)
  case atStart => exact ⟨0, by omega, rfl, Kp.refl _⟩
  case round =>
    obtain ⟨k, hk, rfl, hkp⟩ := hrel
    by_cases hlt : k < n
    · obtain ⟨c1, hx1, hc1⟩ := pa k hlt
      obtain ⟨c2, hx2, hc2⟩ := pb k hlt
      have q1 := (hkp.owns ha).cellAt k (by omega)
      have q2 := (hkp.owns hb).cellAt k (by omega)
      rw [hx1] at q1
      rw [hx2] at q2
      have EC := Lib.hid (hc1.trans hc2.symm)
      clear hx1 hx2 hc1 hc2
      go_wp2_with fail
      go_quiet ((go_at_call 12; exact Calls.quiet_of_same ((Same_yes _ _ _ EC.out).mono fun e w' ⟨he, hw⟩ => ⟨he, hw.symm⟩)))
      go_wp2_with fail
      go_roundw
      case rel => exact ⟨k + 1, by omega, by go_num, hkp.drewN nq⟩
      case measure => simp [intOf]; omega
    · obtain rfl : k = n := by omega
      go_wp2_with fail
      go_ret
      exact ⟨rfl, hkp⟩
theorem SameList_nil (w : World) :
    Calls Tryd.prog 20 #[.slice none 0 0, .slice none 0 0] w fun e w' => e = .returned (.bool true) ∧ Kp w w' := by
  go_enter Tryd.func20, Tryd.ntmps20
  go_wp2_with fail
  refine wp_loop_once ?_
  go_wp2_with fail
  go_ret
  exact ⟨rfl, Kp.refl _⟩

set_option maxRecDepth 100000 in
set_option maxHeartbeats 400000 in
theorem rName_any (kind : Int) (w : World) :
    Calls Tryd.prog 11 #[.int .i64 kind] w fun e w' => e = .returned (.string (wname kind)) ∧ Kp w w' := by
  by_cases hlo : kind < 0
  · have hn : wname kind = ⟨#[]⟩ := by unfold wname; rw [if_neg (by omega), if_neg (by omega), if_neg (by omega), if_neg (by omega)]
    rw [hn]
    have b0 : decide (kind < 0) = true := by simpa using hlo
    clear hlo hn
    go_enter Tryd.func11, Tryd.ntmps11
    go_wp2_with fail
    go_ret
    exact ⟨rfl, (Kp.refl _).alloc _⟩
  by_cases hhi : 3 < kind
  · have hn : wname kind = ⟨#[]⟩ := by unfold wname; rw [if_neg (by omega), if_neg (by omega), if_neg (by omega), if_neg (by omega)]
    rw [hn]
    have b0 : decide (kind < 0) = false := by simpa using hlo
    have b1 : decide (3 < kind) = true := by simpa using hhi
    clear hlo hhi hn
    go_enter Tryd.func11, Tryd.ntmps11
    go_wp2_with fail
    go_ret
    exact ⟨rfl, (Kp.refl _).alloc _⟩
  obtain rfl | rfl | rfl | rfl : kind = 0 ∨ kind = 1 ∨ kind = 2 ∨ kind = 3 := by omega
  all_goals
    go_enter Tryd.func11, Tryd.ntmps11
    go_wp2_with fail
    go_ret
    exact ⟨rfl, (Kp.refl _).alloc _⟩

theorem sub_fine (c : Nat) (x y : Nat) (h : cn c = fl .sub x y) : cn c = sub x y := h
set_option maxRecDepth 100000 in
set_option maxHeartbeats 1000000 in
theorem rWindow_0 (n : Nat) (w : World) (n1 : 1 ≤ n) (n2 : n ≤ 4096) :
    Calls Tryd.prog 7 #[.int .i64 0, .int .i64 n] w fun e w' => ∃ v xs, e = .returned (.tuple #[v, .int .i64 0]) ∧
      w'.ownsRow w.heap.size 34 1 v n xs ∧ PartF (fun j => wel 0 n j) xs n ∧ Kp w w' := by
  have b1 : decide ((n : Int) < 1) = false := by simp; omega
  have b2 : decide ((4096 : Int) < n) = false := by simp; omega
  obtain ⟨i0, hi, hz0, hz1, hz2⟩ := info_parts info_f
  have hown0 : w.ownsRow w.heap.size 34 1 (.slice none 0 0) 0 [] := ⟨rfl, .inl ⟨rfl, rfl⟩⟩
  have ch := cn_half
  have cb := cn_base
  have cs := cn_swing
  go_enter Tryd.func7, Tryd.ntmps7
  go_wp2_with fail
  go_loopw [6, 7] (fun v i wr => ∃ (k : Nat) (xs : List Value), k ≤ n ∧ i = .int .i64 k ∧ wr.ownsRow w.heap.size 34 1 v k xs ∧ PartF (fun j => wel 0 n j) xs k ∧ Kp w wr) (fun _ i _ => n - (intOf i).toNat)
  case atStart => exact ⟨0, [], by omega, rfl, hown0, fun j hj => absurd hj (by omega), Kp.refl w⟩
  case round =>
    clear hown0
    obtain ⟨k, xs, hk, rfl, hown, hp, hkp⟩ := hrel
    have hlen := hown.1
    by_cases hlt : k < n
    · go_wp2_with (first
        | (go_at_call 16; (with_reducible refine (rCos_any _ _ _ (by omega) (by omega)).mono ?_); rintro e w2 ⟨c, rfl, hc, hk2⟩; have hown2 := hk2.owns hown; have hkp2 := hkp.trans hk2)
        | (at_builtin; refine wpList_append_own _ rfl _ _ 23 rfl w.heap.size 34 i0 (.float .f64 0) 1 8 Tryd.underlying23 hi hz0 hz1 hz2 rfl (by decide) _ _ _ rfl (hown2.alloc _) ⟨w2.heap.size, 0, none⟩ 1 1 [.float .f64 4607182418800017408] rfl rfl ?c1 ?c2 ?c3 ?c4 ?c5 ?_))
      case c1 => exact cell_one_new _ _ _
      case c2 => simp [Value.oneCell']
      case c3 => unfold maxLen; omega
      case c4 => omega
      case c5 => have e1 := hkp2.size; simp; omega
      intro v' w5 hown5 hg _
      have hk5 : Kp w w5 := (hkp2.alloc _).grown hg (fun j hj => (hown2.lt j hj).1)
      have hp5 := hp.snoc (c := 4607182418800017408) (by simpa using hlen) (by exact cn_one)
      go_wp2_with fail
      go_roundw
      case rel => exact ⟨k + 1, _, by omega, by go_num, hown5, hp5, hk5⟩
      case measure => simp [intOf]; omega
    · obtain rfl : k = n := by omega
      go_wp2_with fail
      go_ret2
      exact ⟨_, xs, rfl, hown, hp, hkp⟩
set_option maxRecDepth 100000 in
set_option maxHeartbeats 1000000 in
theorem rWindow_1 (n : Nat) (w : World) (n1 : 1 ≤ n) (n2 : n ≤ 4096) :
    Calls Tryd.prog 7 #[.int .i64 1, .int .i64 n] w fun e w' => ∃ v xs, e = .returned (.tuple #[v, .int .i64 0]) ∧
      w'.ownsRow w.heap.size 34 1 v n xs ∧ PartF (fun j => wel 1 n j) xs n ∧ Kp w w' := by
  have b1 : decide ((n : Int) < 1) = false := by simp; omega
  have b2 : decide ((4096 : Int) < n) = false := by simp; omega
  obtain ⟨i0, hi, hz0, hz1, hz2⟩ := info_parts info_f
  have hown0 : w.ownsRow w.heap.size 34 1 (.slice none 0 0) 0 [] := ⟨rfl, .inl ⟨rfl, rfl⟩⟩
  have ch := cn_half
  have cb := cn_base
  have cs := cn_swing
  go_enter Tryd.func7, Tryd.ntmps7
  go_wp2_with fail
  go_loopw [6, 7] (fun v i wr => ∃ (k : Nat) (xs : List Value), k ≤ n ∧ i = .int .i64 k ∧ wr.ownsRow w.heap.size 34 1 v k xs ∧ PartF (fun j => wel 1 n j) xs k ∧ Kp w wr) (fun _ i _ => n - (intOf i).toNat)
  case atStart => exact ⟨0, [], by omega, rfl, hown0, fun j hj => absurd hj (by omega), Kp.refl w⟩
  case round =>
    clear hown0
    obtain ⟨k, xs, hk, rfl, hown, hp, hkp⟩ := hrel
    have hlen := hown.1
    by_cases hlt : k < n
    · go_wp2_with (first
        | (go_at_call 16; (with_reducible refine (rCos_any _ _ _ (by omega) (by omega)).mono ?_); rintro e w2 ⟨c, rfl, hc, hk2⟩; have hown2 := hk2.owns hown; have hkp2 := hkp.trans hk2)
        | ((with_reducible apply wpList_fl .mul rfl); exact rfl; exact rfl; intro r1 m1 hr1)
        | ((with_reducible apply wpList_fl .sub rfl); exact rfl; exact rfl; intro r2 m2 hr2)
        | (at_builtin; refine wpList_append_own _ rfl _ _ 23 rfl w.heap.size 34 i0 (.float .f64 0) 1 8 Tryd.underlying23 hi hz0 hz1 hz2 rfl (by decide) _ _ _ rfl (World.ownsRow.alloc (owns_drewN hown2 (m1 + m2)) _) ⟨w2.heap.size, 0, none⟩ 1 1 [.float .f64 r2] rfl rfl ?c1 ?c2 ?c3 ?c4 ?c5 ?_))
      case c1 => exact cell_one_new _ _ _
      case c2 => simp [Value.oneCell']
      case c3 => unfold maxLen; omega
      case c4 => omega
      case c5 => have e1 := hkp2.size; simp; omega
      intro v' w5 hown5 hg _
      have hk5 : Kp w w5 := ((hkp2.drewN (m1 + m2)).alloc _).grown hg (fun j hj => (hown2.lt j hj).1)
      have hp5 := hp.snoc (c := r2) (by simpa using hlen) (by rw [hr2, hr1, hc, ch]; rfl)
      go_wp2_with fail
      go_roundw
      case rel => exact ⟨k + 1, _, by omega, by go_num, hown5, hp5, hk5⟩
      case measure => simp [intOf]; omega
    · obtain rfl : k = n := by omega
      go_wp2_with fail
      go_ret2
      exact ⟨_, xs, rfl, hown, hp, hkp⟩
set_option maxRecDepth 100000 in
set_option maxHeartbeats 1000000 in
theorem rWindow_2 (n : Nat) (w : World) (n1 : 1 ≤ n) (n2 : n ≤ 4096) :
    Calls Tryd.prog 7 #[.int .i64 2, .int .i64 n] w fun e w' => ∃ v xs, e = .returned (.tuple #[v, .int .i64 0]) ∧
      w'.ownsRow w.heap.size 34 1 v n xs ∧ PartF (fun j => wel 2 n j) xs n ∧ Kp w w' := by
  have b1 : decide ((n : Int) < 1) = false := by simp; omega
  have b2 : decide ((4096 : Int) < n) = false := by simp; omega
  obtain ⟨i0, hi, hz0, hz1, hz2⟩ := info_parts info_f
  have hown0 : w.ownsRow w.heap.size 34 1 (.slice none 0 0) 0 [] := ⟨rfl, .inl ⟨rfl, rfl⟩⟩
  have ch := cn_half
  have cb := cn_base
  have cs := cn_swing
  go_enter Tryd.func7, Tryd.ntmps7
  go_wp2_with fail
  go_loopw [6, 7] (fun v i wr => ∃ (k : Nat) (xs : List Value), k ≤ n ∧ i = .int .i64 k ∧ wr.ownsRow w.heap.size 34 1 v k xs ∧ PartF (fun j => wel 2 n j) xs k ∧ Kp w wr) (fun _ i _ => n - (intOf i).toNat)
  case atStart => exact ⟨0, [], by omega, rfl, hown0, fun j hj => absurd hj (by omega), Kp.refl w⟩
  case round =>
    clear hown0
    obtain ⟨k, xs, hk, rfl, hown, hp, hkp⟩ := hrel
    have hlen := hown.1
    by_cases hlt : k < n
    · go_wp2_with (first
        | (go_at_call 16; (with_reducible refine (rCos_any _ _ _ (by omega) (by omega)).mono ?_); rintro e w2 ⟨c, rfl, hc, hk2⟩; have hown2 := hk2.owns hown; have hkp2 := hkp.trans hk2)
        | (go_at_call 17; fail)
        | ((with_reducible apply wpList_fl .mul rfl); exact rfl; exact rfl; intro r1 m1 hr1)
        | ((with_reducible apply wpList_fl .sub rfl); exact rfl; exact rfl; intro r2 m2 hr2)
        | (at_builtin; refine wpList_append_own _ rfl _ _ 23 rfl w.heap.size 34 i0 (.float .f64 0) 1 8 Tryd.underlying23 hi hz0 hz1 hz2 rfl (by decide) _ _ _ rfl (World.ownsRow.alloc (owns_drewN hown2 (m1 + m2)) _) ⟨w2.heap.size, 0, none⟩ 1 1 [.float .f64 r2] rfl rfl ?c1 ?c2 ?c3 ?c4 ?c5 ?_))
      case c1 => exact cell_one_new _ _ _
      case c2 => simp [Value.oneCell']
      case c3 => unfold maxLen; omega
      case c4 => omega
      case c5 => have e1 := hkp2.size; simp; omega
      intro v' w5 hown5 hg _
      have hk5 : Kp w w5 := ((hkp2.drewN (m1 + m2)).alloc _).grown hg (fun j hj => (hown2.lt j hj).1)
      have hp5 := hp.snoc (c := r2) (by simpa using hlen) (by rw [hr2, hr1, hc, cb, cs]; rfl)
      go_wp2_with fail
      go_roundw
      case rel => exact ⟨k + 1, _, by omega, by go_num, hown5, hp5, hk5⟩
      case measure => simp [intOf]; omega
    · obtain rfl : k = n := by omega
      go_wp2_with fail
      go_ret2
      exact ⟨_, xs, rfl, hown, hp, hkp⟩
set_option maxRecDepth 100000 in
set_option maxHeartbeats 1000000 in
theorem rWindow_3 (n : Nat) (w : World) (n1 : 1 ≤ n) (n2 : n ≤ 4096) :
    Calls Tryd.prog 7 #[.int .i64 3, .int .i64 n] w fun e w' => ∃ v xs, e = .returned (.tuple #[v, .int .i64 0]) ∧
      w'.ownsRow w.heap.size 34 1 v n xs ∧ PartF (fun j => wel 3 n j) xs n ∧ Kp w w' := by
  have b1 : decide ((n : Int) < 1) = false := by simp; omega
  have b2 : decide ((4096 : Int) < n) = false := by simp; omega
  obtain ⟨i0, hi, hz0, hz1, hz2⟩ := info_parts info_f
  have hown0 : w.ownsRow w.heap.size 34 1 (.slice none 0 0) 0 [] := ⟨rfl, .inl ⟨rfl, rfl⟩⟩
  have ch := cn_half
  have cb := cn_base
  have cs := cn_swing
  go_enter Tryd.func7, Tryd.ntmps7
  go_wp2_with fail
  go_loopw [6, 7] (fun v i wr => ∃ (k : Nat) (xs : List Value), k ≤ n ∧ i = .int .i64 k ∧ wr.ownsRow w.heap.size 34 1 v k xs ∧ PartF (fun j => wel 3 n j) xs k ∧ Kp w wr) (fun _ i _ => n - (intOf i).toNat)
  case atStart => exact ⟨0, [], by omega, rfl, hown0, fun j hj => absurd hj (by omega), Kp.refl w⟩
  case round =>
    clear hown0
    obtain ⟨k, xs, hk, rfl, hown, hp, hkp⟩ := hrel
    have hlen := hown.1
    by_cases hlt : k < n
    · go_wp2_with (first
        | (go_at_call 16; (with_reducible refine (rCos_any _ _ _ (by omega) (by omega)).mono ?_); rintro e w2 ⟨c, rfl, hc, hk2⟩; have hown2 := hk2.owns hown; have hkp2 := hkp.trans hk2)
        | (go_at_call 18; (with_reducible refine (rSin_any _ _ _ (by omega) (by omega)).mono ?_); rintro e w3 ⟨c3, rfl, hc3, hk3⟩; have hown2 := hk3.owns hown2; have hkp2 := hkp2.trans hk3)
        | (at_builtin; refine wpList_append_own _ rfl _ _ 23 rfl w.heap.size 34 i0 (.float .f64 0) 1 8 Tryd.underlying23 hi hz0 hz1 hz2 rfl (by decide) _ _ _ rfl (hown2.alloc _) ⟨w3.heap.size, 0, none⟩ 1 1 [.float .f64 c3] rfl rfl ?c1 ?c2 ?c3 ?c4 ?c5 ?_))
      case c1 => exact cell_one_new _ _ _
      case c2 => simp [Value.oneCell']
      case c3 => unfold maxLen; omega
      case c4 => omega
      case c5 => have e1 := hkp2.size; simp; omega
      intro v' w5 hown5 hg _
      have hk5 : Kp w w5 := (hkp2.alloc _).grown hg (fun j hj => (hown2.lt j hj).1)
      have hp5 := hp.snoc (c := c3) (by simpa using hlen) (by exact hc3)
      go_wp2_with fail
      go_roundw
      case rel => exact ⟨k + 1, _, by omega, by go_num, hown5, hp5, hk5⟩
      case measure => simp [intOf]; omega
    · obtain rfl : k = n := by omega
      go_wp2_with fail
      go_ret2
      exact ⟨_, xs, rfl, hown, hp, hkp⟩
theorem rWindow_any (kind : Int) (n : Nat) (w : World) (h0 : 0 ≤ kind) (h3 : kind ≤ 3) (n1 : 1 ≤ n) (n2 : n ≤ 4096) :
    Calls Tryd.prog 7 #[.int .i64 kind, .int .i64 n] w fun e w' => ∃ v xs, e = .returned (.tuple #[v, .int .i64 0]) ∧
      w'.ownsRow w.heap.size 34 1 v n xs ∧ PartF (fun j => wel kind n j) xs n ∧ Kp w w' := by
  obtain rfl | rfl | rfl | rfl : kind = 0 ∨ kind = 1 ∨ kind = 2 ∨ kind = 3 := by omega
  · exact rWindow_0 n w n1 n2
  · exact rWindow_1 n w n1 n2
  · exact rWindow_2 n w n1 n2
  · exact rWindow_3 n w n1 n2
set_option maxRecDepth 100000 in
set_option maxHeartbeats 400000 in
theorem rWindow_mode (kind n : Int) (w : World) (h : kind < 0 ∨ 3 < kind) :
    Calls Tryd.prog 7 #[.int .i64 kind, .int .i64 n] w fun e w' => e = .returned (.tuple #[.slice none 0 0, .int .i64 17]) ∧ Kp w w' := by
  rcases h with h | h
  · have b1 : decide (kind < 0) = true := by simpa using h
    go_enter Tryd.func7, Tryd.ntmps7
    go_wp2_with fail
    go_ret2
    exact ⟨rfl, Kp.refl _⟩
  · have b1 : decide (kind < 0) = false := by simp; omega
    have b2 : decide (3 < kind) = true := by simpa using h
    go_enter Tryd.func7, Tryd.ntmps7
    go_wp2_with fail
    go_ret2
    exact ⟨rfl, Kp.refl _⟩
set_option maxRecDepth 100000 in
set_option maxHeartbeats 400000 in
theorem rWindow_len (kind n : Int) (w : World) (h0 : 0 ≤ kind) (h3 : kind ≤ 3) (h : n < 1 ∨ 4096 < n) :
    Calls Tryd.prog 7 #[.int .i64 kind, .int .i64 n] w fun e w' => e = .returned (.tuple #[.slice none 0 0, .int .i64 7]) ∧ Kp w w' := by
  have c1 : decide (kind < 0) = false := by simp; omega
  have c2 : decide (3 < kind) = false := by simp; omega
  rcases h with h | h
  · have b1 : decide (n < 1) = true := by simpa using h
    go_enter Tryd.func7, Tryd.ntmps7
    go_wp2_with fail
    go_ret2
    exact ⟨rfl, Kp.refl _⟩
  · have b1 : decide (n < 1) = false := by simp; omega
    have b2 : decide (4096 < n) = true := by simpa using h
    go_enter Tryd.func7, Tryd.ntmps7
    go_wp2_with fail
    go_ret2
    exact ⟨rfl, Kp.refl _⟩
end Go.Proofs.YtmndkbebcjpkcaaDoor
