/-
  The walks of the reference's All and of RootsAll.
-/
import Derived.Test.YtijbkcjbkioefaaDoorRTwist
namespace Go.Proofs.YtijbkcjbkioefaaDoor
open Go Go.RowKit Go.Fl Go.Roots

theorem PartR.snoc {n : Nat} {xs : List Value} {k c s : Nat} (h : PartR n xs k) (hk : xs.length = k) (hc : cn c = (root n k).1) (hs : cn s = (root n k).2) : PartR n (xs ++ [.complex .f64 c s]) (k + 1) := by
  intro j hj
  by_cases e : j = k
  · subst e; exact ⟨c, s, by simp [hk], hc, hs⟩
  · obtain ⟨c', s', h1, h2⟩ := h j (by omega)
    exact ⟨c', s', by rw [List.getElem?_append_left (by omega)]; exact h1, h2⟩

set_option maxRecDepth 100000 in
set_option maxHeartbeats 400000 in
theorem rAll_any (n : Nat) (w : World) (h1 : 1 ≤ n) (h2 : n ≤ 16384) :
    Calls Tryd.prog 12 #[.int .i64 n] w fun e w' => ∃ v xs, e = .returned (.tuple #[v, .int .i64 0]) ∧
      w'.ownsRow w.heap.size 32 1 v n xs ∧ PartR n xs n ∧ Kp w w' := by
  have b1 : decide ((n : Int) < 1) = false := by simp; omega
  have b2 : decide ((16384 : Int) < n) = false := by simp; omega
  obtain ⟨i0, hi, hz0, hz1, hz2⟩ := info_parts info_c
  have hown0 := World.ownsRow_made (base := w.heap.size) (e := 32) (size := 1) w #[] 0 (Nat.le_refl _) (by unfold maxLen; omega) rfl
  go_enter Tryd.func12, Tryd.ntmps12
  go_wp2_with fail
  go_loopw [4, 5] (fun v i wr => ∃ (k : Nat) (xs : List Value), k ≤ n ∧ i = .int .i64 k ∧ wr.ownsRow w.heap.size 32 1 v k xs ∧ PartR n xs k ∧ Kp w wr) (fun _ i _ => n - (intOf i).toNat)
  case atStart => exact ⟨0, [], by omega, rfl, hown0, fun j hj => absurd hj (by omega), (Kp.refl w).alloc _⟩
  case round =>
    clear hown0
    obtain ⟨k, xs, hk, rfl, hown, hp, hkp⟩ := hrel
    have hlen := hown.1
    by_cases hlt : k < n
    · go_wp2_with (first
        | (go_at_call 25; (with_reducible refine (rRoot_any _ _ _ (by omega) (by omega)).mono ?_); rintro e w2 ⟨c, s, rfl, hc, hs, hk2⟩; have hown2 := hk2.owns hown)
        | (at_builtin; refine wpList_append_own _ rfl _ _ 23 rfl w.heap.size 32 i0 (.complex .f64 0 0) 1 16 Tryd.underlying23 hi hz0 hz1 hz2 rfl (by decide) _ _ _ rfl (hown2.alloc _) ⟨w2.heap.size, 0, none⟩ 1 1 [.complex .f64 c s] rfl rfl ?c1 ?c2 ?c3 ?c4 ?c5 ?_))
      case c1 => exact cell_one_new _ _ _
      case c2 => simp [Value.oneCell']
      case c3 => unfold maxLen; omega
      case c4 => omega
      case c5 => have e1 := hkp.size; have e2 := hk2.size; simp; omega
      intro v' w3 hown3 hg _
      have hk3 : Kp w w3 := ((hkp.trans hk2).alloc _).grown hg (fun j hj => (hown2.lt j hj).1)
      have hp3 := hp.snoc (by simpa using hlen) hc hs
      go_wp2_with fail
      go_roundw
      case rel => exact ⟨k + 1, _, by omega, by go_num, hown3, hp3, hk3⟩
      case measure => simp [intOf]; omega
    · obtain rfl : k = n := by omega
      go_wp2_with fail
      go_ret2
      exact ⟨_, xs, rfl, hown, hp, hkp⟩

set_option maxRecDepth 100000 in
set_option maxHeartbeats 400000 in
theorem rAll_bad (n : Int) (w : World) (h : n < 1 ∨ 16384 < n) :
    Calls Tryd.prog 12 #[.int .i64 n] w fun e w' => e = .returned (.tuple #[.slice none 0 0, .int .i64 7]) ∧ Kp w w' := by
  rcases h with h | h
  · have b1 : decide (n < 1) = true := by simpa using h
    go_enter Tryd.func12, Tryd.ntmps12
    go_wp2_with fail
    go_ret2
    exact ⟨rfl, Kp.refl _⟩
  · have b1 : decide (n < 1) = false := by simp; omega
    have b2 : decide (16384 < n) = true := by simpa using h
    go_enter Tryd.func12, Tryd.ntmps12
    go_wp2_with fail
    go_ret2
    exact ⟨rfl, Kp.refl _⟩

/-- From place k on the list's numbers are the roots. -/
def FromR (n : Nat) (xs : List Value) (k : Nat) : Prop := ∀ j, k ≤ j → j < n → ∃ c s, xs[j]? = some (.complex .f64 c s) ∧ cn c = (root n j).1 ∧ cn s = (root n j).2
theorem FromR.set {n : Nat} {xs : List Value} {k : Nat} (h : FromR n xs k) (v : Value) : FromR n (xs.set k v) (k + 1) := by
  intro j hj hn
  obtain ⟨c, s, h1, h2⟩ := h j (by omega) hn
  exact ⟨c, s, by rw [List.getElem?_set_ne (by omega)]; exact h1, h2⟩
abbrev cslice (g n c : Nat) : Value := .slice (some ⟨g, 0, none⟩) n c
/-- The first loop: list a is the roots from place k on; b and want stand as they were. -/
structure RA (n : Nat) (w wr : World) (ga gb gr cr : Nat) (xa xb xw : List Value) : Prop where
  a : wr.ownsRow w.heap.size 32 1 (.slice (some ⟨ga, 0, none⟩) n n) n xa
  b : wr.ownsRow w.heap.size 32 1 (.slice (some ⟨gb, 0, none⟩) n n) n xb
  r : wr.ownsRow w.heap.size 32 1 (.slice (some ⟨gr, 0, none⟩) n cr) n xw
  k : Kp w wr
theorem RA.store {n : Nat} {w wr : World} {ga gb gr cr : Nat} {xa xb xw : List Value} (h : RA n w wr ga gb gr cr xa xb xw) (h1 : ga ≠ gb) (h2 : ga ≠ gr) (k q : Nat) (v : Value) :
    RA n w ((wr.drewN q).setCell ⟨ga, k, none⟩ v) ga gb gr cr (xa.set k v) xb xw := by
  obtain ⟨s1, s2⟩ := (owns_drewN h.a q).stored k v
  refine ⟨s1, (owns_drewN h.b q).kept s2 (.inr ?_), (owns_drewN h.r q).kept s2 (.inr ?_), (h.k.drewN q).setCell (h.a.lt ga rfl).1 _⟩
  · intro e; cases e; exact h1 rfl
  · intro e; cases e; exact h2 rfl
theorem PartR.from {n : Nat} {xs : List Value} (h : PartR n xs n) : FromR n xs 0 := fun j _ hn => h j hn

theorem eight_eq : (ord (cn 4620693217682128896) (cn 4620693217682128896) == some .eq) = true := by decide +kernel
theorem zero_eq : (ord 0 0 == some .eq) = true := by decide +kernel

set_option maxRecDepth 100000 in
set_option maxHeartbeats 1000000 in
theorem rootsAll_good (n : Nat) (w : World) (h1 : 1 ≤ n) (h2 : n ≤ 16384) :
    Calls Tryd.prog 3 #[.int .i64 n] w fun e w' => e = .returned (.bool true) ∧ Kp w w' := by
  have e0 := cn_0
  have e8 := eight_eq
  have z8 := zero_eq
  obtain ⟨i0, hi, hz0, hz1, hz2⟩ := info_parts info_c
  go_enter Tryd.func3, Tryd.ntmps3
  go_wp2_with fail
  refine (lives_any _).mono ?_
  rintro e w1 ⟨rfl, hk1⟩
  go_wp2_with fail
  refine (All_any n _ h1 h2).mono ?_
  rintro e w2 ⟨ga, xa, rfl, hoa, ⟨_, hCa⟩, hk2⟩
  go_wp2_with fail
  refine (All_any n _ h1 h2).mono ?_
  rintro e w3 ⟨gb, xb, rfl, hob, ⟨_, hCb⟩, hk3⟩
  go_wp2_with fail
  refine (rAll_any n _ h1 h2).mono ?_
  rintro e w4 ⟨vr, xw, rfl, hor, hCr, hk4⟩
  obtain ⟨gr, cr, rfl⟩ := owns_form hor (by omega)
  go_wp2_with (go_at_call 13; (with_reducible refine (Num_nil _).mono ?_); rintro e w2 ⟨rfl, rfl⟩)
  have la := hoa.lt ga rfl
  have lb := hob.lt gb rfl
  have lr := hor.lt gr rfl
  have n1 : ga ≠ gb := by omega
  have n2 : ga ≠ gr := by omega
  have RA0 : RA n w w4 ga gb gr cr xa xb xw := ⟨owns_mono (hk4.owns (hk3.owns hoa)) hk1.size, owns_mono (hk4.owns hob) (hk1.trans hk2).size, owns_mono hor ((hk1.trans hk2).trans hk3).size, ((hk1.trans hk2).trans hk3).trans hk4⟩
  have Fa : FromR n xa 0 := fun j _ hj => hCa j hj
  have Fb : FromR n xb 0 := fun j _ hj => hCb j hj
  have Fr : FromR n xw 0 := fun j _ hj => hCr j hj
  clear hCa hCb hCr hoa hob hor hk1 hk2 hk3 hk4 la lb lr
  go_loopw [9, 10, 56] (fun _ _ c wr => ∃ (k : Nat) (ya : List Value), k ≤ n ∧ c = .int .i64 k ∧ RA n w wr ga gb gr cr ya xb xw ∧ FromR n ya k) (fun _ _ c _ => n - (intOf c).toNat)
  case atStart => exact ⟨0, xa, by omega, rfl, RA0, Fa⟩
  case round =>
    clear RA0 Fa
    obtain ⟨k, ya, hk, rfl, hR, hF⟩ := hrel
    by_cases hlt : k < n
    · obtain ⟨c1, s1, hx1, hc1, hs1⟩ := hF k (Nat.le_refl _) hlt
      obtain ⟨c2, s2, hx2, hc2, hs2⟩ := Fr k (Nat.zero_le _) hlt
      have q1 := hR.a.cellAt k (by omega)
      have q2 := hR.r.cellAt k (by omega)
      have q3 := hR.a.frozenAt k
      rw [hx1] at q1
      rw [hx2] at q2
      have ec : cn c1 = cn c2 := hc1.trans hc2.symm
      have es : cn s1 = cn s2 := hs1.trans hs2.symm
      have EC := Lib.hid ec
      have ES := Lib.hid es
      clear hx1 hx2 hc1 hc2 hs1 hs2 ec es
      go_wp2_with fail
      go_quiet ((go_at_call 14; exact Calls.quiet_of_same ((same_yes _ _ _ _ _ EC.out ES.out).mono fun e w' ⟨he, hw⟩ => ⟨he, hw.symm⟩)))
      go_wp2_with fail
      go_roundw
      case rel => exact ⟨k + 1, _, by omega, by go_num, hR.store n1 n2 k nq _, hF.set _⟩
      case measure => simp [intOf]; omega
    · obtain rfl : k = n := by omega
      clear hF
      have hlen := hR.a.1
      go_wp2_with (at_builtin; refine wpList_append_own _ rfl _ _ 23 rfl w.heap.size 32 i0 (.complex .f64 0 0) 1 16 Tryd.underlying23 hi hz0 hz1 hz2 rfl (by decide) _ _ _ rfl (hR.a.alloc _) ⟨wr.heap.size, 0, none⟩ 1 1 [.complex .f64 4620693217682128896 0] rfl rfl ?c1 ?c2 ?c3 ?c4 ?c5 ?_)
      case c1 => exact cell_one_new _ _ _
      case c2 => simp [Value.oneCell']
      case c3 => unfold maxLen; omega
      case c4 => omega
      case c5 => have e1 := hR.k.size; simp; omega
      intro v' w5 hown5 hg _
      have hk5 : Kp w w5 := (hR.k.alloc _).grown hg (fun j hj => (hR.a.lt j hj).1)
      have hb5 := (hR.b.alloc _).kept hg (.inr (by intro e; cases e; exact n1 rfl))
      have hr5 := (hR.r.alloc _).kept hg (.inr (by intro e; cases e; exact n2 rfl))
      clear hg hi hz0 hz1 hz2
      obtain ⟨g5, c5, rfl⟩ := owns_form hown5 (by omega)
      have hcell5 : ∀ wz, Kp w5 wz → wz.cell? ⟨g5, k, none⟩ = some (.complex .f64 4620693217682128896 0) := by
        intro wz hz
        rw [(hz.owns hown5).cellAt k (by omega), List.getElem?_append_right (by omega)]
        simp [hlen]
      clear hown5 hR hlen
      go_wp2_with fail
      go_loopw [11, 12, 79] (fun _ _ c wr => ∃ (j : Nat), j ≤ k ∧ c = .int .i64 j ∧ wr.ownsRow w.heap.size 32 1 (.slice (some ⟨gb, 0, none⟩) k k) k xb ∧ wr.ownsRow w.heap.size 32 1 (.slice (some ⟨gr, 0, none⟩) k cr) k xw ∧ Kp w5 wr) (fun _ _ c _ => k - (intOf c).toNat)
      case atStart => exact ⟨0, by omega, rfl, hb5, hr5, Kp.refl _⟩
      case round =>
        clear hb5 hr5
        obtain ⟨j, hj, rfl, hb, hr, hkk⟩ := hrel
        by_cases hl2 : j < k
        · obtain ⟨c1, s1, hx1, hc1, hs1⟩ := Fb j (Nat.zero_le _) hl2
          obtain ⟨c2, s2, hx2, hc2, hs2⟩ := Fr j (Nat.zero_le _) hl2
          have q1 := hb.cellAt j (by omega)
          have q2 := hr.cellAt j (by omega)
          rw [hx1] at q1
          rw [hx2] at q2
          have ec : cn c1 = cn c2 := hc1.trans hc2.symm
          have es : cn s1 = cn s2 := hs1.trans hs2.symm
          have EC := Lib.hid ec
          have ES := Lib.hid es
          clear hx1 hx2 hc1 hc2 hs1 hs2 ec es
          go_wp2_with fail
          go_quiet ((go_at_call 14; exact Calls.quiet_of_same ((same_yes _ _ _ _ _ EC.out ES.out).mono fun e w' ⟨he, hw⟩ => ⟨he, hw.symm⟩)))
          go_wp2_with fail
          go_roundw
          case rel => exact ⟨j + 1, by omega, by go_num, owns_drewN hb nq, owns_drewN hr nq, hkk.drewN nq⟩
          case measure => simp [intOf]; omega
        · obtain rfl : j = k := by omega
          have hlast := hcell5 _ hkk
          clear hcell5
          go_wp2_with fail
          go_ret
          exact ⟨rfl, hk5.trans hkk⟩

set_option maxRecDepth 100000 in
set_option maxHeartbeats 1000000 in
theorem rootsAll_bad (n : Int) (E : Nat → Addr) (w : World) (hE : Errs w E) (h : n < 1 ∨ 16384 < n) :
    Calls Tryd.prog 3 #[.int .i64 n] w fun e w' => e = .returned (.bool true) ∧ Kp w w' := by
  have HN := Lib.hid h
  clear h
  have e8 := eight_eq
  have e0 := cn_0
  have z8 := zero_eq
  go_enter Tryd.func3, Tryd.ntmps3
  go_wp2_with (first
      | (go_at_call 10; (with_reducible refine (lives_any _).mono ?_); rintro e w2 ⟨rfl, hk2⟩; have hE := hE.kp hk2)
      | (go_at_call 11; (with_reducible refine (All_bad _ (E 6) _ hE.len HN.out).mono ?_); rintro e w2 ⟨rfl, hk2⟩; have hE := hE.kp hk2)
      | (go_at_call 12; (with_reducible refine (rAll_bad _ _ HN.out).mono ?_); rintro e w2 ⟨rfl, hk2⟩; have hE := hE.kp hk2)
      | (go_at_call 13; (with_reducible refine (Num_len E _ hE).mono ?_); rintro e w2 ⟨rfl, hk2⟩; have hE := hE.kp hk2))
  have hown := World.ownsRow_nil w2 w.heap.size 32 1
  have hk : Kp w w2 := by repeat (first | exact Kp.refl _ | refine Kp.drewN ?_ _ | refine Kp.trans ?_ (by assumption))
  obtain ⟨i0, hi, hz0, hz1, hz2⟩ := info_parts info_c
  refine wp_loop_once ?_
  go_wp2_with (at_builtin; refine wpList_append_own _ rfl _ _ 23 rfl w.heap.size 32 i0 (.complex .f64 0 0) 1 16 Tryd.underlying23 hi hz0 hz1 hz2 rfl (by decide) _ _ _ rfl (hown.alloc _) ⟨w2.heap.size, 0, none⟩ 1 1 [.complex .f64 4620693217682128896 0] rfl rfl ?c1 ?c2 ?c3 ?c4 ?c5 ?_)
  case c1 => exact cell_one_new _ _ _
  case c2 => simp [Value.oneCell']
  case c3 => unfold maxLen; omega
  case c4 => omega
  case c5 => have e1 := hk.size; simp; omega
  intro v' w5 hown5 hg _
  have hk5 : Kp w w5 := (hk.alloc _).grown hg (fun j hj => by cases hj)
  clear hg hi hz0 hz1 hz2
  obtain ⟨g5, c5, rfl⟩ := owns_form hown5 (by omega)
  have hlast : w5.cell? ⟨g5, 0, none⟩ = some (.complex .f64 4620693217682128896 0) := by
    rw [hown5.cellAt 0 (by omega)]; rfl
  clear hown5
  go_wp2_with fail
  refine wp_loop_once ?_
  go_wp2_with fail
  go_ret
  exact ⟨rfl, hk5⟩
theorem walk_RootsAll (n : Int) (_ : (Lit.int .i64 n).wf = true) (E : Nat → Addr) (w : World) (hE : Errs w E) :
    Calls Tryd.prog 3 #[.int .i64 n] w fun e w' => e = .returned (.bool true) ∧ Kp w w' := by
  by_cases h : n < 1 ∨ 16384 < n
  · exact rootsAll_bad n E w hE h
  · obtain ⟨m, rfl⟩ := Int.eq_ofNat_of_zero_le (show 0 ≤ n by omega)
    exact rootsAll_good m w (by omega) (by omega)
end Go.Proofs.YtijbkcjbkioefaaDoor
