/-
  The walk of DirectPlays: Forward, Inverse and Slide of every list; the answers are new, nothing handed in is changed.
-/
import Derived.Test.YtmadbdecbkmjkaaDoorDAtL
import Derived.Deep.DeepCutAuto
import Derived.Deep.CutBlock
namespace Go.Proofs.YtmadbdecbkmjkaaDoor
open Go Go.RowKit Go.Fl Go.Roots

theorem Num_len' (E : Nat → Addr) (w : World) (hE : Errs w E) :
    Calls Tryd.prog 16 #[.iface 96 (.pointer (some (E 6)))] w fun e w' => e = .returned (.int .i64 7) ∧ Kp w w' := Num_len E w hE
set_option maxRecDepth 100000 in
set_option maxHeartbeats 4000000 in
/-- A list of more than 200 and at most 1024 elements. -/
theorem plays_wide (ob o1 o2 : Option Addr) (nb cb n1 c1 n2 c2 : Nat) (bs : Nat → Int) (w : World) (hn : nb ≤ 17592186043904) (hb : Wd w ob nb bs) (h1 : 200 < nb / 2) (h2 : nb / 2 ≤ 1024) :
    Calls Tryd.prog 4 #[.slice ob nb cb, .slice o1 n1 c1, .slice o2 n2 c2] w fun e w' => e = .returned (.bool true) ∧ Kp w w' := by
  have HB := Lib.hid hb
  have HW : Hid (∀ o c w', Calls Tryd.prog 13 #[.slice o (nb / 2) c] w' fun e w'' => e = .returned (.bool true) ∧ w' = w'') := Lib.hid fun o c w' => by
    have := wide_any o (nb / 2) c w'
    rw [decide_eq_true (p := 200 < nb / 2 ∧ nb / 2 ≤ 1024) ⟨h1, h2⟩] at this
    exact this
  clear hb h1 h2
  go_enter Tryd.func4, Tryd.ntmps4
  go_wp2_with (first
    | (go_at_call 8; (with_reducible refine (dlives_any _).mono ?_); rintro e w0 ⟨rfl, hk0⟩)
    | (go_at_call 12; (with_reducible refine (listOf_any ob nb cb bs _ (by omega) (HB.out.kp hk0)).mono ?_); rintro e w1 ⟨v, rfl, hC, ⟨g, c, rfl⟩, hk1⟩)
    | (go_at_call 13; (refine (HW.out _ _ _).mono ?_); rintro e w2 ⟨rfl, rfl⟩))
  go_ret
  exact ⟨rfl, hk0.trans hk1⟩
/-- The two numbers that go and come. -/
theorem news (o : Option Addr) (n c : Nat) (bs : Nat → Int) (w : World) (hn : n ≤ 17592186043904) (h1 : 1 < n) (hb : Wd w o n bs) :
    Calls Tryd.prog 12 #[.slice o n c] w fun e w' => ∃ g m cap x y, e = .returned (.slice (some ⟨g, 0, none⟩) m cap) ∧ 0 < m ∧ w'.cell? ⟨g, 0, none⟩ = some (.complex .f64 x y) ∧ Kp w w' := by
  refine (listOf_any o n c bs w (by omega) hb).mono ?_
  rintro e w' ⟨v, rfl, hC, ⟨g, c', rfl⟩, hk⟩
  obtain ⟨g', c'', e1, hH⟩ := hC.some (by omega)
  cases e1
  obtain ⟨x, y, hx, _⟩ := hH 0 (by omega)
  exact ⟨g, _, c', x, y, rfl, by omega, hx, hk⟩
set_option maxRecDepth 100000 in
set_option maxHeartbeats 1000000 in
theorem Inverse_bad (o : Option Addr) (n cap : Nat) (f : Nat → Nat × Nat) (aL : Addr) (w : World) (hn : n ≤ 8796093021952) (hf : Rd w o n f) (hL : errAt w 2 aL) (h : n < 1 ∨ 1024 < n) :
    Calls Tryd.prog 11 #[.slice o n cap] w fun e w' => e = .returned (.tuple #[.slice none 0 0, .iface 96 (.pointer (some aL))]) ∧ Kp w w' := by
  obtain ⟨i0, hi, hz0, hz1, hz2⟩ := info_parts info_c
  have H := Lib.hid h
  have HL := Lib.hid hL
  clear h hL
  go_enter Tryd.func11, Tryd.ntmps11
  go_wp2_with (at_make; refine wpList_make_full _ rfl _ _ 26 rfl w.heap.size 27 i0 (.complex .f64 0 0) 1 Tryd.underlying26 hi hz0 hz1 _ _ _ _ n rfl rfl rfl rfl (by rw [hz2]; omega) (by unfold maxLen; omega) (Nat.le_refl _) ?_)
  intro w1 hown hgrow
  have hk1 : Kp w w1 := (Kp.refl w).grown hgrow (fun k hk => by cases hk)
  clear hgrow hi hz0 hz1 hz2
  go_wp2_with fail
  go_loopw [5, 6, 16] (fun _ _ i wr => ∃ (k : Nat) (xs : List Value), k ≤ n ∧ i = .int .i64 k ∧ wr.ownsRow w.heap.size 27 1 (.slice (some ⟨w.heap.size, 0, none⟩) n n) n xs ∧ Kp w wr) (fun _ _ i _ => n - (intOf i).toNat)
  case atStart => exact ⟨0, _, by omega, rfl, hown, hk1⟩
  case round =>
    clear hown hk1
    obtain ⟨k, xs, hk, rfl, hown, hkp⟩ := hrel
    have hlen := hown.1
    by_cases hlt : k < n
    · obtain ⟨g, rfl, hfg⟩ := hf (by omega)
      obtain ⟨c, s, hc0, hc, hs⟩ := hfg.kp hkp k hlt
      have hcell := hown.cellAt k (by omega)
      rw [List.getElem?_eq_getElem (show k < xs.length by omega)] at hcell
      have hfr := hown.frozenAt k
      go_wp2_with (go_at_call 32; (refine (Conj_any _ _ _).mono ?_); rintro e w4 ⟨rfl, rfl⟩)
      go_roundw
      case rel => exact ⟨k + 1, _, by omega, by go_num, (hown.stored k _).1, hkp.setCell (Nat.le_refl _) _⟩
      case measure => simp [intOf]; omega
    · obtain rfl : k = n := by omega
      go_wp2_with (go_at_call 9; (with_reducible refine (Forward_bad _ _ _ aL _ (hkp.later HL.out) H.out).mono ?_); rintro e w4 ⟨rfl, hk4⟩)
      go_ret2
      exact ⟨rfl, hkp.trans hk4⟩
theorem room_has {w : World} {base G n C : Nat} {xs : List Value} {f : Nat → Nat × Nat} (hoG : w.ownsRow base 27 1 (.slice (some ⟨G, 0, none⟩) (n + 2) C) (n + 2) (xs ++ [C77, C88])) (hp : PartC f xs n) (hl : xs.length = n * 1) : Has w G n f :=
  Has.own hoG (by omega) fun j hj => by
    obtain ⟨c', s', e1, e2⟩ := hp j hj
    exact ⟨c', s', by rw [List.getElem?_append_left (by omega)]; exact e1, e2⟩
theorem room_rd {w : World} {base G n C : Nat} {xs : List Value} {f : Nat → Nat × Nat} (hoG : w.ownsRow base 27 1 (.slice (some ⟨G, 0, none⟩) (n + 2) C) (n + 2) (xs ++ [C77, C88])) (hp : PartC f xs n) (hl : xs.length = n * 1) : Rd w (some ⟨G, 0, none⟩) n f :=
  Rd.of_has (Has.own hoG (by omega) fun j hj => by
    obtain ⟨c', s', e1, e2⟩ := hp j hj
    exact ⟨c', s', by rw [List.getElem?_append_left (by omega)]; exact e1, e2⟩)
theorem Rd.zero (w : World) (o : Option Addr) (f : Nat → Nat × Nat) : Rd w o 0 f := fun h => absurd h (by omega)
theorem cell_drewd {w : World} {a : Addr} {v : Value} (h : w.cell? a = some v) : w.drew.cell? a = some v := h
abbrev C6 : Value := .complex .f64 4618441417868443648 0
abbrev errL (E : Nat → Addr) : Value := .iface 96 (.pointer (some (E 6)))
set_option maxRecDepth 100000 in
set_option maxHeartbeats 8000000 in
/-- A list that is refused. -/
theorem plays_bad (ob o1 o2 : Option Addr) (nb cb n1 c1 n2 c2 : Nat) (bs b1 b2 : Nat → Int) (E : Nat → Addr) (w : World) (hE : Errs w E) (hn : nb ≤ 17592186043904) (hn1 : n1 ≤ 17592186043904) (hn2 : n2 ≤ 17592186043904) (hb : Wd w ob nb bs) (hb1 : Wd w o1 n1 b1) (hb2 : Wd w o2 n2 b2) (h : nb / 2 < 1 ∨ 1024 < nb / 2) :
    Calls Tryd.prog 4 #[.slice ob nb cb, .slice o1 n1 c1, .slice o2 n2 c2] w fun e w' => e = .returned (.bool true) ∧ Kp w w' := by
  obtain ⟨i0, hi, hz0, hz1, hz2⟩ := info_parts info_c
  have HB := Lib.hid hb
  have HB1 := Lib.hid hb1
  have HB2 := Lib.hid hb2
  have HE := Lib.hid hE
  have HW : Hid (∀ o c w', Calls Tryd.prog 13 #[.slice o (nb / 2) c] w' fun e w'' => e = .returned (.bool false) ∧ w' = w'') := Lib.hid fun o c w' => by
    have := wide_any o (nb / 2) c w'
    rw [decide_eq_false (p := 200 < nb / 2 ∧ nb / 2 ≤ 1024) (by omega)] at this
    exact this
  have HH := Lib.hid h
  have e0 := cn_0
  have t1 : (ord (cn 4618441417868443648) (cn 4618441417868443648) == some .eq) = true := by decide +kernel
  have t2 : (ord 0 0 == some .eq) = true := by decide +kernel
  clear hb hb1 hb2 hE h
  go_enter Tryd.func4, Tryd.ntmps4
  go_wp2_with (first
    | (go_at_call 8; (with_reducible refine (dlives_any _).mono ?_); rintro e w0 ⟨rfl, hk0⟩)
    | (go_at_call 12; (with_reducible refine (listOf_any ob nb cb bs _ (by omega) (HB.out.kp hk0)).mono ?_); rintro e w1 ⟨v, rfl, ⟨xs, hox, hpx⟩, ⟨g, c, rfl⟩, hk1⟩)
    | (go_at_call 13; (refine (HW.out _ _ _).mono ?_); rintro e w2 ⟨rfl, rfl⟩)
    | (go_at_call 14; (refine (room_any g (nb / 2) c _ xs _ (by omega) hox (hpx.one (by have := hox.1; omega))).mono ?_); rintro e w2 ⟨G, C, rfl, hoG, hk2⟩; have hkk := (hk0.trans hk1).trans hk2; have HOG := Lib.hid hoG; have HPX := Lib.hid hpx; have HRx := Lib.hid (CO.rd ⟨xs, hox, hpx⟩); have HE2 := Lib.hid (HE.out.kp hkk); have hkr := Kp.refl w2; have HRX := Lib.hid ((Rd.of_has (Has.own hox (Nat.le_refl _) hpx)).kp hk2); have HRG := Lib.hid (room_rd hoG hpx hox.1); clear hoG hpx hox HRx hk0 hk1)
    | (go_at_call 9; (with_reducible refine (Forward_bad _ _ _ (E 6) _ (HE2.out.kp (by assumption)).len HH.out).mono ?_); rintro e wn ⟨rfl, hkn⟩; have hkq := Kp.trans (by assumption) hkn; clear hkn)
    | (go_at_call 15; (with_reducible refine (rForward_bad _ _ _ _ HH.out).mono ?_); rintro e wn ⟨rfl, rfl⟩)
    | (go_at_call 16; (with_reducible refine (Num_len' E _ (HE2.out.kp (by assumption))).mono ?_); rintro e wn ⟨rfl, hkn⟩; have hkq := Kp.trans (by assumption) hkn; clear hkn)
    | (go_at_call 17; (with_reducible refine (dsameList_yes none none 0 0 0 (fun _ => (0, 0)) _ (by omega) (Rd.zero _ _ _) (Rd.zero _ _ _)).mono ?_); rintro e wn ⟨rfl, hkn⟩; have hkq := Kp.trans (by assumption) hkn; clear hkn)
    | (go_at_call 18; (refine (kept_any G C (nb / 2) c _ _ xs (lst bs) _ (by omega) (Kp.owns (by assumption) HOG.out) HPX.out (HRX.out.kp (by assumption))).mono ?_); rintro e wn ⟨rfl, hkn⟩; have hkq := Kp.trans (by assumption) hkn; clear hkn))
  refine wp_loop_once ?_
  go_wp2_with (at_builtin; refine wpList_append_own _ rfl _ _ 26 rfl w2.heap.size 27 i0 (.complex .f64 0 0) 1 16 Tryd.underlying26 hi hz0 hz1 hz2 rfl (by decide) _ _ _ rfl (World.ownsRow_nil _ w2.heap.size 27 1) ⟨_, 0, none⟩ 1 1 [C6] rfl rfl ?c1 ?c2 ?c3 ?c4 ?c5 ?_)
  case c1 => exact cell_one_new _ _ _
  case c2 => simp [Value.oneCell']
  case c3 => decide
  case c4 => decide
  case c5 => have := Kp.size hkq; simp; omega
  intro v5 w5 hown5 hg5 _
  have hk5 : Kp w2 w5 := (hkq.alloc _).grown hg5 (fun j hj => by cases hj)
  obtain ⟨gy, cy, rfl⟩ := owns_form hown5 (by omega)
  have q6 : w5.cell? ⟨gy, 0, none⟩ = some C6 := hown5.cellAt 0 (by omega)
  clear hg5 hown5 hkq hi hz0 hz1 hz2
  go_upto_region 25 with (first
    | (go_at_call 11; (with_reducible refine (Inverse_bad _ _ _ (lst bs) (E 6) _ (by omega) (HRG.out.kp (by assumption)) (HE2.out.kp (by assumption)).len HH.out).mono ?_); rintro e wn ⟨rfl, hkn⟩; have hkq := Kp.trans (by assumption) hkn; clear hkn)
    | (go_at_call 19; (with_reducible refine (rInverse_bad _ _ _ (lst bs) _ (by omega) (HRX.out.kp (by assumption)) HH.out).mono ?_); rintro e wn ⟨rfl, hkn⟩; have hkq := Kp.trans (by assumption) hkn; clear hkn)
    | (go_at_call 16; (with_reducible refine (Num_len' E _ (HE2.out.kp (by assumption))).mono ?_); rintro e wn ⟨rfl, hkn⟩; have hkq := Kp.trans (by assumption) hkn; clear hkn)
    | (go_at_call 17; (with_reducible refine (dsameList_yes none none 0 0 0 (fun _ => (0, 0)) _ (by omega) (Rd.zero _ _ _) (Rd.zero _ _ _)).mono ?_); rintro e wn ⟨rfl, hkn⟩; have hkq := Kp.trans (by assumption) hkn; (try have q6' := hkn.later q6); clear hkn)
    | (go_at_call 18; (refine (kept_any G C (nb / 2) c _ _ xs (lst bs) _ (by omega) (Kp.owns (by assumption) HOG.out) HPX.out (HRX.out.kp (by assumption))).mono ?_); rintro e wn ⟨rfl, hkn⟩; have hkq := Kp.trans (by assumption) hkn; clear hkn))
  have HN1 := Lib.hid hn1
  have HN2 := Lib.hid hn2
  by_cases a1 : 1 < n1
  · by_cases a2 : 1 < n2
    · have d1 : decide ((1 : Int) < (n1 : Int)) = true := by simp; omega
      have d2 : decide ((1 : Int) < (n2 : Int)) = true := by simp; omega
      have A1 := Lib.hid a1
      have A2 := Lib.hid a2
      go_upto_if 119 with fail
      clear d1 d2 a1 a2
      go_cut [17, 18] (fun x y wx => (∃ p q, x = .complex .f64 p q) ∧ (∃ p q, y = .complex .f64 p q) ∧ Kp w2 wx)
      case first =>
        go_upto_region 26 with fail
        go_region_with (first
          | (go_at_call 12; (with_reducible refine (news o1 n1 c1 b1 _ HN1.out A1.out (HB1.out.kp (hkk.trans (by first | assumption | exact Kp.drew (by assumption) | exact Kp.drew (Kp.drew (by assumption)) | exact Kp.drew (Kp.drew (Kp.drew (by assumption))) | exact Kp.drewN (by assumption) _)))).mono ?_); rintro e wn ⟨gg, mm1, cp1, x1, y1, rfl, hm1, hx1, hkn⟩; (try have hx2' := hkn.later (cell_drewd (by assumption))); have hkq := Kp.trans (by first | assumption | exact Kp.drew (by assumption) | exact Kp.drew (Kp.drew (by assumption)) | exact Kp.drew (Kp.drew (Kp.drew (by assumption))) | exact Kp.drewN (by assumption) _) hkn; clear hkn)
          | (go_at_call 12; (with_reducible refine (news o2 n2 c2 b2 _ HN2.out A2.out (HB2.out.kp (hkk.trans (by first | assumption | exact Kp.drew (by assumption) | exact Kp.drew (Kp.drew (by assumption)) | exact Kp.drew (Kp.drew (Kp.drew (by assumption))) | exact Kp.drewN (by assumption) _)))).mono ?_); rintro e wn ⟨gg2, mm2, cp2, x2, y2, rfl, hm2, hx2, hkn⟩; (try have hx1' := hkn.later (cell_drewd (by assumption))); have hkq := Kp.trans (by first | assumption | exact Kp.drew (by assumption) | exact Kp.drew (Kp.drew (by assumption)) | exact Kp.drew (Kp.drew (Kp.drew (by assumption))) | exact Kp.drewN (by assumption) _) hkn; clear hkn))
        all_goals
          go_wp2_with fail
          go_meet
          case rel => exact ⟨⟨_, _, rfl⟩, ⟨_, _, rfl⟩, by first | assumption | exact Kp.drew (by assumption) | exact Kp.drew (Kp.drew (by assumption)) | exact Kp.drew (Kp.drew (Kp.drew (by assumption))) | exact Kp.drewN (by assumption) _⟩
      case rest =>
        clear hkq
        obtain ⟨⟨p, q, rfl⟩, ⟨p2, q2, rfl⟩, hkq⟩ := hcut
        go_wp2_with (first
          | (go_at_call 20; (with_reducible refine (Slide_bad _ _ _ _ _ _ _ (E 6) _ (HE2.out.kp (by first | assumption | exact Kp.drew (by assumption) | exact Kp.drew (Kp.drew (by assumption)) | exact Kp.drew (Kp.drew (Kp.drew (by assumption))) | exact Kp.drewN (by assumption) _)).len HH.out).mono ?_); rintro e wn ⟨rfl, hkn⟩; have hkq := Kp.trans (by first | assumption | exact Kp.drew (by assumption) | exact Kp.drew (Kp.drew (by assumption)) | exact Kp.drew (Kp.drew (Kp.drew (by assumption))) | exact Kp.drewN (by assumption) _) hkn; clear hkn)
          | (go_at_call 21; (with_reducible refine (rSlide_bad _ _ _ _ _ _ _ _ HH.out).mono ?_); rintro e wn ⟨rfl, rfl⟩)
          | (go_at_call 16; (with_reducible refine (Num_len' E _ (HE2.out.kp (by first | assumption | exact Kp.drew (by assumption) | exact Kp.drew (Kp.drew (by assumption)) | exact Kp.drew (Kp.drew (Kp.drew (by assumption))) | exact Kp.drewN (by assumption) _))).mono ?_); rintro e wn ⟨rfl, hkn⟩; have hkq := Kp.trans (by first | assumption | exact Kp.drew (by assumption) | exact Kp.drew (Kp.drew (by assumption)) | exact Kp.drew (Kp.drew (Kp.drew (by assumption))) | exact Kp.drewN (by assumption) _) hkn; clear hkn)
          | (go_at_call 17; (with_reducible refine (dsameList_yes none none 0 0 0 (fun _ => (0, 0)) _ (by omega) (Rd.zero _ _ _) (Rd.zero _ _ _)).mono ?_); rintro e wn ⟨rfl, hkn⟩; have hkq := Kp.trans (by first | assumption | exact Kp.drew (by assumption) | exact Kp.drew (Kp.drew (by assumption)) | exact Kp.drew (Kp.drew (Kp.drew (by assumption))) | exact Kp.drewN (by assumption) _) hkn; clear hkn)
          | (go_at_call 18; (refine (kept_any G C (nb / 2) c _ _ xs (lst bs) _ (by omega) (Kp.owns (by first | assumption | exact Kp.drew (by assumption) | exact Kp.drew (Kp.drew (by assumption)) | exact Kp.drew (Kp.drew (Kp.drew (by assumption))) | exact Kp.drewN (by assumption) _) HOG.out) HPX.out (HRX.out.kp (by first | assumption | exact Kp.drew (by assumption) | exact Kp.drew (Kp.drew (by assumption)) | exact Kp.drew (Kp.drew (Kp.drew (by assumption))) | exact Kp.drewN (by assumption) _))).mono ?_); rintro e wn ⟨rfl, hkn⟩; have hkq := Kp.trans (by first | assumption | exact Kp.drew (by assumption) | exact Kp.drew (Kp.drew (by assumption)) | exact Kp.drew (Kp.drew (Kp.drew (by assumption))) | exact Kp.drewN (by assumption) _) hkn; clear hkn))
        go_ret
        exact ⟨rfl, hkk.trans (by first | assumption | exact Kp.drew (by assumption) | exact Kp.drew (Kp.drew (by assumption)) | exact Kp.drew (Kp.drew (Kp.drew (by assumption))) | exact Kp.drewN (by assumption) _)⟩
    · have d1 : decide ((1 : Int) < (n1 : Int)) = true := by simp; omega
      have d2 : decide ((1 : Int) < (n2 : Int)) = false := by simp; omega
      go_upto_if 119 with fail
      clear d1 d2 a1 a2
      go_wp2_with (first
        | (go_at_call 20; (with_reducible refine (Slide_bad _ _ _ _ _ _ _ (E 6) _ (HE2.out.kp (by first | assumption | exact Kp.drew (by assumption) | exact Kp.drew (Kp.drew (by assumption)) | exact Kp.drew (Kp.drew (Kp.drew (by assumption))) | exact Kp.drewN (by assumption) _)).len HH.out).mono ?_); rintro e wn ⟨rfl, hkn⟩; have hkq := Kp.trans (by first | assumption | exact Kp.drew (by assumption) | exact Kp.drew (Kp.drew (by assumption)) | exact Kp.drew (Kp.drew (Kp.drew (by assumption))) | exact Kp.drewN (by assumption) _) hkn; clear hkn)
        | (go_at_call 21; (with_reducible refine (rSlide_bad _ _ _ _ _ _ _ _ HH.out).mono ?_); rintro e wn ⟨rfl, rfl⟩)
        | (go_at_call 16; (with_reducible refine (Num_len' E _ (HE2.out.kp (by first | assumption | exact Kp.drew (by assumption) | exact Kp.drew (Kp.drew (by assumption)) | exact Kp.drew (Kp.drew (Kp.drew (by assumption))) | exact Kp.drewN (by assumption) _))).mono ?_); rintro e wn ⟨rfl, hkn⟩; have hkq := Kp.trans (by first | assumption | exact Kp.drew (by assumption) | exact Kp.drew (Kp.drew (by assumption)) | exact Kp.drew (Kp.drew (Kp.drew (by assumption))) | exact Kp.drewN (by assumption) _) hkn; clear hkn)
        | (go_at_call 17; (with_reducible refine (dsameList_yes none none 0 0 0 (fun _ => (0, 0)) _ (by omega) (Rd.zero _ _ _) (Rd.zero _ _ _)).mono ?_); rintro e wn ⟨rfl, hkn⟩; have hkq := Kp.trans (by first | assumption | exact Kp.drew (by assumption) | exact Kp.drew (Kp.drew (by assumption)) | exact Kp.drew (Kp.drew (Kp.drew (by assumption))) | exact Kp.drewN (by assumption) _) hkn; clear hkn)
        | (go_at_call 18; (refine (kept_any G C (nb / 2) c _ _ xs (lst bs) _ (by omega) (Kp.owns (by first | assumption | exact Kp.drew (by assumption) | exact Kp.drew (Kp.drew (by assumption)) | exact Kp.drew (Kp.drew (Kp.drew (by assumption))) | exact Kp.drewN (by assumption) _) HOG.out) HPX.out (HRX.out.kp (by first | assumption | exact Kp.drew (by assumption) | exact Kp.drew (Kp.drew (by assumption)) | exact Kp.drew (Kp.drew (Kp.drew (by assumption))) | exact Kp.drewN (by assumption) _))).mono ?_); rintro e wn ⟨rfl, hkn⟩; have hkq := Kp.trans (by first | assumption | exact Kp.drew (by assumption) | exact Kp.drew (Kp.drew (by assumption)) | exact Kp.drew (Kp.drew (Kp.drew (by assumption))) | exact Kp.drewN (by assumption) _) hkn; clear hkn))
      go_ret
      exact ⟨rfl, hkk.trans (by first | assumption | exact Kp.drew (by assumption) | exact Kp.drew (Kp.drew (by assumption)) | exact Kp.drew (Kp.drew (Kp.drew (by assumption))) | exact Kp.drewN (by assumption) _)⟩
  · have d1 : decide ((1 : Int) < (n1 : Int)) = false := by simp; omega
    go_upto_if 119 with fail
    clear d1 a1
    go_wp2_with (first
      | (go_at_call 20; (with_reducible refine (Slide_bad _ _ _ _ _ _ _ (E 6) _ (HE2.out.kp (by first | assumption | exact Kp.drew (by assumption) | exact Kp.drew (Kp.drew (by assumption)) | exact Kp.drew (Kp.drew (Kp.drew (by assumption))) | exact Kp.drewN (by assumption) _)).len HH.out).mono ?_); rintro e wn ⟨rfl, hkn⟩; have hkq := Kp.trans (by first | assumption | exact Kp.drew (by assumption) | exact Kp.drew (Kp.drew (by assumption)) | exact Kp.drew (Kp.drew (Kp.drew (by assumption))) | exact Kp.drewN (by assumption) _) hkn; clear hkn)
      | (go_at_call 21; (with_reducible refine (rSlide_bad _ _ _ _ _ _ _ _ HH.out).mono ?_); rintro e wn ⟨rfl, rfl⟩)
      | (go_at_call 16; (with_reducible refine (Num_len' E _ (HE2.out.kp (by first | assumption | exact Kp.drew (by assumption) | exact Kp.drew (Kp.drew (by assumption)) | exact Kp.drew (Kp.drew (Kp.drew (by assumption))) | exact Kp.drewN (by assumption) _))).mono ?_); rintro e wn ⟨rfl, hkn⟩; have hkq := Kp.trans (by first | assumption | exact Kp.drew (by assumption) | exact Kp.drew (Kp.drew (by assumption)) | exact Kp.drew (Kp.drew (Kp.drew (by assumption))) | exact Kp.drewN (by assumption) _) hkn; clear hkn)
      | (go_at_call 17; (with_reducible refine (dsameList_yes none none 0 0 0 (fun _ => (0, 0)) _ (by omega) (Rd.zero _ _ _) (Rd.zero _ _ _)).mono ?_); rintro e wn ⟨rfl, hkn⟩; have hkq := Kp.trans (by first | assumption | exact Kp.drew (by assumption) | exact Kp.drew (Kp.drew (by assumption)) | exact Kp.drew (Kp.drew (Kp.drew (by assumption))) | exact Kp.drewN (by assumption) _) hkn; clear hkn)
      | (go_at_call 18; (refine (kept_any G C (nb / 2) c _ _ xs (lst bs) _ (by omega) (Kp.owns (by first | assumption | exact Kp.drew (by assumption) | exact Kp.drew (Kp.drew (by assumption)) | exact Kp.drew (Kp.drew (Kp.drew (by assumption))) | exact Kp.drewN (by assumption) _) HOG.out) HPX.out (HRX.out.kp (by first | assumption | exact Kp.drew (by assumption) | exact Kp.drew (Kp.drew (by assumption)) | exact Kp.drew (Kp.drew (Kp.drew (by assumption))) | exact Kp.drewN (by assumption) _))).mono ?_); rintro e wn ⟨rfl, hkn⟩; have hkq := Kp.trans (by first | assumption | exact Kp.drew (by assumption) | exact Kp.drew (Kp.drew (by assumption)) | exact Kp.drew (Kp.drew (Kp.drew (by assumption))) | exact Kp.drewN (by assumption) _) hkn; clear hkn))
    go_ret
    exact ⟨rfl, hkk.trans (by first | assumption | exact Kp.drew (by assumption) | exact Kp.drew (Kp.drew (by assumption)) | exact Kp.drew (Kp.drew (Kp.drew (by assumption))) | exact Kp.drewN (by assumption) _)⟩
end Go.Proofs.YtmadbdecbkmjkaaDoor
