/-
  The walk of DirectPlays where the list is answered: new lists, written over, grown; nothing handed in is changed.
-/
import Derived.Test.YtmadbdecbkmjkaaDoorDPlays
namespace Go.Proofs.YtmadbdecbkmjkaaDoor
open Go Go.RowKit Go.Fl Go.Roots

set_option maxRecDepth 100000 in
set_option maxHeartbeats 8000000 in
/-- A list that is answered. -/
theorem plays_good (ob o1 o2 : Option Addr) (nb cb n1 c1 n2 c2 : Nat) (bs b1 b2 : Nat → Int) (w : World) (hn : nb ≤ 17592186043904) (hn1 : n1 ≤ 17592186043904) (hn2 : n2 ≤ 17592186043904) (hb : Wd w ob nb bs) (hb1 : Wd w o1 n1 b1) (hb2 : Wd w o2 n2 b2) (m : Nat) (hm : nb / 2 = m) (hm1 : 1 ≤ m) (hm3 : m ≤ 200) :
    Calls Tryd.prog 4 #[.slice ob nb cb, .slice o1 n1 c1, .slice o2 n2 c2] w fun e w' => e = .returned (.bool true) ∧ Kp w w' := by
  obtain ⟨i0, hi, hz0, hz1, hz2⟩ := info_parts info_c
  have hm2 : m ≤ 1024 := by omega
  have hm1' := hm1
  have hm2' := hm2
  have HB : Hid (∀ w', Kp w w' → Calls Tryd.prog 12 #[.slice ob nb cb] w' fun e w'' => ∃ v, e = .returned v ∧ CO w'' w'.heap.size v m (lst bs) ∧ (∃ g c, v = .slice (some ⟨g, 0, none⟩) m c) ∧ Kp w' w'') := Lib.hid fun w' h => by
    have := listOf_any ob nb cb bs w' (by omega) (hb.kp h)
    rw [hm] at this; exact this
  have HB1 := Lib.hid hb1
  have HB2 := Lib.hid hb2
  have HW : Hid (∀ o c w', Calls Tryd.prog 13 #[.slice o m c] w' fun e w'' => e = .returned (.bool false) ∧ w' = w'') := Lib.hid fun o c w' => by
    have := wide_any o m c w'
    rw [decide_eq_false (p := 200 < m ∧ m ≤ 1024) (by omega)] at this
    exact this
  have e0 := cn_0
  have t1 : (ord (cn 4618441417868443648) (cn 4618441417868443648) == some .eq) = true := by decide +kernel
  have t2 : (ord 0 0 == some .eq) = true := by decide +kernel
  have TK : True := trivial
  clear hb hb1 hb2 hm
  go_enter Tryd.func4, Tryd.ntmps4
  go_wp2_with (first
    | (go_at_call 8; (with_reducible refine (dlives_any _).mono ?_); rintro e w0 ⟨rfl, hk0⟩)
    | (go_at_call 12; (with_reducible refine (HB.out _ hk0).mono ?_); rintro e w1 ⟨v, rfl, ⟨xs, hox, hpx⟩, ⟨g, c, rfl⟩, hk1⟩)
    | (go_at_call 13; (refine (HW.out _ _ _).mono ?_); rintro e w2 ⟨rfl, rfl⟩)
    | (go_at_call 14; (refine (room_any g m c _ xs _ (by omega) hox (hpx.one (by have := hox.1; omega))).mono ?_); rintro e w2 ⟨G, C, rfl, hoG, hk2⟩; have hkk := (hk0.trans hk1).trans hk2; have HOG := Lib.hid hoG; have HPX := Lib.hid hpx; have hkr := Kp.refl w2; have HRX := Lib.hid ((Rd.of_has (Has.own hox (Nat.le_refl _) hpx)).kp hk2); have HHG : Hid (Has w2 G m (lst bs)) := Lib.hid (room_has hoG hpx hox.1); clear hoG hpx hox hk0 hk1)
    | (clear TK; go_at_call 9; (with_reducible refine (Forward_any _ _ _ (lst bs) _ hm1 hm2 HHG.out).mono ?_); rintro e wy ⟨gy, ys, rfl, hoy, hpy, hky⟩; have hkq := hky)
    | (go_at_call 9; (with_reducible refine (Forward_any _ _ _ (lst bs) _ hm1 hm2 (HHG.out.kp hky)).mono ?_); rintro e wt ⟨gt, ts, rfl, hot, hpt, hkt⟩; have hkq := hky.trans hkt; have hgyl : gy < wy.heap.size := (World.ownsRow.lt hoy gy rfl).2; have hgyb : w2.heap.size ≤ gy := (World.ownsRow.lt hoy gy rfl).1; have hgtl : wy.heap.size ≤ gt := (World.ownsRow.lt hot gt rfl).1; have HOY := Lib.hid (hkt.owns hoy); have HOT := Lib.hid hot; clear hoy hot)
    | (go_at_call 15; (with_reducible refine (rForward_any _ _ _ (lst bs) _ hm1' hm2' (HRX.out.kp hkq)).mono ?_); rintro e wz ⟨v, rfl, ⟨zs, hoz, hpz⟩, hkz⟩; obtain ⟨gz, cz, rfl⟩ := owns_form hoz hm1; have hgzl : wt.heap.size ≤ gz := (World.ownsRow.lt hoz gz rfl).1; have hkq2 := hkq.trans hkz; have hty := hkt.size; have HOY2 := Lib.hid (hkz.owns HOY.out); have HOT2 := Lib.hid (hkz.owns HOT.out); have HOZ2 := Lib.hid hoz; clear hoz)
    | (go_at_call 16; (with_reducible refine (Num_nilk _).mono ?_); rintro e wn ⟨rfl, hkn⟩; have hkq3 := hkq2.trans hkn; have HOY3 := Lib.hid (hkn.owns HOY2.out); have HOT3 := Lib.hid (hkn.owns HOT2.out); have HOZ3 := Lib.hid (hkn.owns HOZ2.out); have HRY := Lib.hid (Rd.of_has (Has.own HOY3.out (Nat.le_refl _) hpy)); have HRZ := Lib.hid (Rd.of_has (Has.own HOZ3.out (Nat.le_refl _) hpz)); clear hkn)
    | (go_at_call 17; (with_reducible refine (dsameList_yes _ _ m _ _ (fun j => dft (lst bs) m j) _ (by omega) HRY.out HRZ.out).mono ?_); rintro e ws ⟨rfl, hkn⟩; have hkq4 := hkq3.trans hkn; have HOY4 := Lib.hid (hkn.owns HOY3.out); have HOT4 := Lib.hid (hkn.owns HOT3.out); have HOZ4 := Lib.hid (hkn.owns HOZ3.out); clear hkn)
    | (go_at_call 18; (refine (kept_any G C m c _ _ xs (lst bs) _ (by omega) (hkq4.owns HOG.out) HPX.out (HRX.out.kp hkq4)).mono ?_); rintro e wk ⟨rfl, hkn⟩; have hkq5 := hkq4.trans hkn; have HOY5 := Lib.hid (hkn.owns HOY4.out); have HOT5 := Lib.hid (hkn.owns HOT4.out); have HOZ5 := Lib.hid (hkn.owns HOZ4.out); clear hkn))
  have hne1 : gt ≠ gy := by omega
  have hne2 : gz ≠ gy := by omega
  have HPT := Lib.hid hpt
  have HPZ := Lib.hid hpz
  clear hpy hpt hpz hky hkt hkz hkq hkq2 hkq3 hkq4 HOY HOY2 HOY3 HOY4 HOT HOT2 HOT3 HOT4 HOZ2 HOZ3 HOZ4 HRY HRZ hgyl hgtl hgzl hty
  go_loopw [16, 63] (fun _ x wr => ∃ (k : Nat) (ls : List Value), k ≤ m ∧ x = .int .i64 k ∧ wr.ownsRow w2.heap.size 27 1 (.slice (some ⟨gy, 0, none⟩) m m) m ls ∧ Hid (wr.ownsRow wy.heap.size 27 1 (.slice (some ⟨gt, 0, none⟩) m m) m ts) ∧ Hid (wr.ownsRow wt.heap.size 27 1 (.slice (some ⟨gz, 0, none⟩) m cz) m zs) ∧ Kp w2 wr) (fun _ x _ => m - (intOf x).toNat)
  case atStart => exact ⟨0, _, by omega, rfl, HOY5.out, HOT5, HOZ5, hkq5⟩
  case round =>
    clear HOY5 HOT5 HOZ5 hkq5
    obtain ⟨k, ls, hk, rfl, hown, HT, HZ, hkq⟩ := hrel
    have hlen := hown.1
    by_cases hlt : k < m
    · have hcell := hown.cellAt k (by omega)
      rw [List.getElem?_eq_getElem (show k < ls.length by omega)] at hcell
      have hfr := hown.frozenAt k
      have hst := hown.stored k (.complex .f64 4617315517961601024 0)
      have HT' := Lib.hid (World.ownsRow.kept HT.out hst.2 (.inr (by simpa [Value.ownBlock] using hne1)))
      have HZ' := Lib.hid (World.ownsRow.kept HZ.out hst.2 (.inr (by simpa [Value.ownBlock] using hne2)))
      have hk' := hkq.setCell (p := ⟨gy, k, none⟩) hgyb (.complex .f64 4617315517961601024 0)
      have hst1 := hst.1
      clear hst
      go_wp2_with fail
      go_roundw
      case rel => exact ⟨k + 1, _, by omega, by go_num, hst1, HT', HZ', hk'⟩
      case measure => simp [intOf]; omega
    · obtain rfl : m = k := by omega
      clear hlt hk
      go_wp2_with (at_builtin; refine wpList_append_own _ rfl _ _ 26 rfl w2.heap.size 27 i0 (.complex .f64 0 0) 1 16 Tryd.underlying26 hi hz0 hz1 hz2 rfl (by decide) _ _ _ rfl (hown.alloc _) ⟨_, 0, none⟩ 1 1 [C6] rfl rfl ?c1 ?c2 ?c3 ?c4 ?c5 ?_)
      case c1 => exact cell_one_new _ _ _
      case c2 => simp [Value.oneCell']
      case c3 => unfold maxLen; omega
      case c4 => omega
      case c5 => have := Kp.size hkq; simp; omega
      intro v5 w5 hown5 hg5 _
      have hk5 : Kp w2 w5 := (hkq.alloc _).grown hg5 (fun j hj => by
        obtain rfl : gy = j := by simpa [Value.ownBlock] using hj
        exact hgyb)
      have HT5 := World.ownsRow.kept (World.ownsRow.alloc HT.out _) hg5 (.inr (by simpa [Value.ownBlock] using hne1))
      have HZ5 := World.ownsRow.kept (World.ownsRow.alloc HZ.out _) hg5 (.inr (by simpa [Value.ownBlock] using hne2))
      have HRT := Lib.hid (Rd.of_has (Has.own HT5 (Nat.le_refl _) HPT.out))
      have HRZ := Lib.hid (Rd.of_has (Has.own HZ5 (Nat.le_refl _) HPZ.out))
      obtain ⟨g5, c5, rfl⟩ := owns_form hown5 (by omega)
      have q6 : w5.cell? ⟨g5, m, none⟩ = some C6 := by
        have := hown5.cellAt m (by simp)
        rw [this]
        rw [List.getElem?_append_right (by omega), show m - ls.length = 0 by omega]
        rfl
      have e7 : IntKind.i64.wrap (((m : Int) + 1) - 1) = (m : Int) := by rw [show ((m : Int) + 1) - 1 = (m : Int) by omega]; exact IntWalk.i64_in _ (by omega)
      have e8 : (m : Int) + 1 - 1 = (m : Int) := by omega
      clear hown5 hg5 hown hkq HT HZ HT5 HZ5 hlen
      go_upto_region 20 with (go_at_call 17; (with_reducible refine (dsameList_yes _ _ m _ _ (fun j => dft (lst bs) m j) _ (by omega) HRT.out HRZ.out).mono ?_); rintro e ws2 ⟨rfl, hkn⟩; have hkq := hk5.trans hkn; have q6' := hkn.later q6; clear hkn)
      clear hk5 q6 q6' e7 e8 HRT HRZ hi hz0 hz1 hz2
      go_upto_region 25 with (first
        | (go_at_call 11; (with_reducible refine (Inverse_any _ _ _ (lst bs) _ hm1 hm2 (HHG.out.kp (by first | assumption | exact Kp.drew (by assumption) | exact Kp.drew (Kp.drew (by assumption)) | exact Kp.drew (Kp.drew (Kp.drew (by assumption))) | exact Kp.drewN (by assumption) _))).mono ?_); rintro e wn ⟨gs, ss, rfl, hos, hps, hkn⟩; have hkq := Kp.trans (by first | assumption | exact Kp.drew (by assumption) | exact Kp.drew (Kp.drew (by assumption)) | exact Kp.drew (Kp.drew (Kp.drew (by assumption))) | exact Kp.drewN (by assumption) _) hkn; have HI1 := Lib.hid (Rd.of_has (Has.own hos (Nat.le_refl _) hps)); clear hkn hos hps)
        | (go_at_call 19; (with_reducible refine (rInverse_any _ _ _ (lst bs) _ hm1' hm2' (HRX.out.kp (by first | assumption | exact Kp.drew (by assumption) | exact Kp.drew (Kp.drew (by assumption)) | exact Kp.drew (Kp.drew (Kp.drew (by assumption))) | exact Kp.drewN (by assumption) _))).mono ?_); rintro e wn ⟨v, rfl, hcz, hkn⟩; have hkq := Kp.trans (by first | assumption | exact Kp.drew (by assumption) | exact Kp.drew (Kp.drew (by assumption)) | exact Kp.drew (Kp.drew (Kp.drew (by assumption))) | exact Kp.drewN (by assumption) _) hkn; obtain ⟨oi, ci, rfl, hzi⟩ := hcz.rd; have HI2 := Lib.hid (HI1.out.kp hkn); have HJ1 := Lib.hid hzi; clear hkn hcz hzi)
        | (go_at_call 16; (with_reducible refine (Num_nilk _).mono ?_); rintro e wn ⟨rfl, hkn⟩; have hkq := Kp.trans (by first | assumption | exact Kp.drew (by assumption) | exact Kp.drew (Kp.drew (by assumption)) | exact Kp.drew (Kp.drew (Kp.drew (by assumption))) | exact Kp.drewN (by assumption) _) hkn; have HI3 := Lib.hid (HI2.out.kp hkn); have HJ2 := Lib.hid (HJ1.out.kp hkn); clear hkn)
        | (go_at_call 17; (with_reducible refine (dsameList_yes _ _ m _ _ _ _ (by omega) HI3.out HJ2.out).mono ?_); rintro e wn ⟨rfl, hkn⟩; have hkq := Kp.trans (by first | assumption | exact Kp.drew (by assumption) | exact Kp.drew (Kp.drew (by assumption)) | exact Kp.drew (Kp.drew (Kp.drew (by assumption))) | exact Kp.drewN (by assumption) _) hkn; clear hkn)
        | (go_at_call 18; (refine (kept_any G C m c _ _ xs (lst bs) _ (by omega) (Kp.owns (by first | assumption | exact Kp.drew (by assumption) | exact Kp.drew (Kp.drew (by assumption)) | exact Kp.drew (Kp.drew (Kp.drew (by assumption))) | exact Kp.drewN (by assumption) _) HOG.out) HPX.out (HRX.out.kp (by first | assumption | exact Kp.drew (by assumption) | exact Kp.drew (Kp.drew (by assumption)) | exact Kp.drew (Kp.drew (Kp.drew (by assumption))) | exact Kp.drewN (by assumption) _))).mono ?_); rintro e wn ⟨rfl, hkn⟩; have hkq := Kp.trans (by first | assumption | exact Kp.drew (by assumption) | exact Kp.drew (Kp.drew (by assumption)) | exact Kp.drew (Kp.drew (Kp.drew (by assumption))) | exact Kp.drewN (by assumption) _) hkn; clear hkn))
      have HN1 := Lib.hid hn1
      have HN2 := Lib.hid hn2
      by_cases a1 : 1 < n1
      · by_cases a2 : 1 < n2
        · have d1 : decide ((1 : Int) < (n1 : Int)) = true := by simp; omega
          have d2 : decide ((1 : Int) < (n2 : Int)) = true := by simp; omega
          have A1 := Lib.hid a1
          have A2 := Lib.hid a2
          go_upto_if 119 with fail
          clear d1 d2 a1 a2
          go_cut [17, 18] (fun x y wx => (∃ p q, x = .complex .f64 p q) ∧ (∃ p q, y = .complex .f64 p q) ∧ Kp w2 wx)
          case first =>
            go_upto_region 26 with fail
            go_region_with (first
          | (go_at_call 12; (with_reducible refine (news o1 n1 c1 b1 _ HN1.out A1.out (HB1.out.kp (hkk.trans (by first | assumption | exact Kp.drew (by assumption) | exact Kp.drew (Kp.drew (by assumption)) | exact Kp.drew (Kp.drew (Kp.drew (by assumption))) | exact Kp.drewN (by assumption) _)))).mono ?_); rintro e wn ⟨gg, mm1, cp1, x1, y1, rfl, hm1, hx1, hkn⟩; (try have hx2' := hkn.later (cell_drewd (by assumption))); have hkq := Kp.trans (by first | assumption | exact Kp.drew (by assumption) | exact Kp.drew (Kp.drew (by assumption)) | exact Kp.drew (Kp.drew (Kp.drew (by assumption))) | exact Kp.drewN (by assumption) _) hkn; clear hkn)
          | (go_at_call 12; (with_reducible refine (news o2 n2 c2 b2 _ HN2.out A2.out (HB2.out.kp (hkk.trans (by first | assumption | exact Kp.drew (by assumption) | exact Kp.drew (Kp.drew (by assumption)) | exact Kp.drew (Kp.drew (Kp.drew (by assumption))) | exact Kp.drewN (by assumption) _)))).mono ?_); rintro e wn ⟨gg2, mm2, cp2, x2, y2, rfl, hm2, hx2, hkn⟩; (try have hx1' := hkn.later (cell_drewd (by assumption))); have hkq := Kp.trans (by first | assumption | exact Kp.drew (by assumption) | exact Kp.drew (Kp.drew (by assumption)) | exact Kp.drew (Kp.drew (Kp.drew (by assumption))) | exact Kp.drewN (by assumption) _) hkn; clear hkn))
            all_goals
              go_wp2_with fail
              go_meet
              case rel => exact ⟨⟨_, _, rfl⟩, ⟨_, _, rfl⟩, by first | assumption | exact Kp.drew (by assumption) | exact Kp.drew (Kp.drew (by assumption)) | exact Kp.drew (Kp.drew (Kp.drew (by assumption))) | exact Kp.drewN (by assumption) _⟩
          case rest =>
            clear hkq
            obtain ⟨⟨p, q, rfl⟩, ⟨p2, q2, rfl⟩, hkq⟩ := hcut
            go_wp2_with (first
              | (go_at_call 20; (with_reducible refine (Slide_any _ _ _ _ _ _ _ (lst bs) _ hm1 hm2 (HHG.out.kp (by first | assumption | exact Kp.drew (by assumption) | exact Kp.drew (Kp.drew (by assumption)) | exact Kp.drew (Kp.drew (Kp.drew (by assumption))) | exact Kp.drewN (by assumption) _))).mono ?_); rintro e wn ⟨gs, ss, rfl, hos, hps, hkn⟩; have hkq := Kp.trans (by first | assumption | exact Kp.drew (by assumption) | exact Kp.drew (Kp.drew (by assumption)) | exact Kp.drew (Kp.drew (Kp.drew (by assumption))) | exact Kp.drewN (by assumption) _) hkn; have HY3 := Lib.hid (Rd.of_has (Has.own hos (Nat.le_refl _) hps)); clear hkn hos hps)
              | (go_at_call 21; (with_reducible refine (rSlide_any _ _ _ _ _ _ _ (lst bs) _ hm1' hm2' (HRX.out.kp (by first | assumption | exact Kp.drew (by assumption) | exact Kp.drew (Kp.drew (by assumption)) | exact Kp.drew (Kp.drew (Kp.drew (by assumption))) | exact Kp.drewN (by assumption) _))).mono ?_); rintro e wn ⟨v, rfl, hcz, hkn⟩; have hkq := Kp.trans (by first | assumption | exact Kp.drew (by assumption) | exact Kp.drew (Kp.drew (by assumption)) | exact Kp.drew (Kp.drew (Kp.drew (by assumption))) | exact Kp.drewN (by assumption) _) hkn; obtain ⟨oz3, cz3, rfl, hz3⟩ := hcz.rd; have HY4 := Lib.hid (HY3.out.kp hkn); have HZ3 := Lib.hid hz3; clear hkn hcz hz3)
              | (go_at_call 16; (with_reducible refine (Num_nilk _).mono ?_); rintro e wn ⟨rfl, hkn⟩; have hkq := Kp.trans (by first | assumption | exact Kp.drew (by assumption) | exact Kp.drew (Kp.drew (by assumption)) | exact Kp.drew (Kp.drew (Kp.drew (by assumption))) | exact Kp.drewN (by assumption) _) hkn; have HY5 := Lib.hid (HY4.out.kp hkn); have HZ4 := Lib.hid (HZ3.out.kp hkn); clear hkn)
              | (go_at_call 17; (with_reducible refine (dsameList_yes _ _ m _ _ _ _ (by omega) HY5.out HZ4.out).mono ?_); rintro e wn ⟨rfl, hkn⟩; have hkq := Kp.trans (by first | assumption | exact Kp.drew (by assumption) | exact Kp.drew (Kp.drew (by assumption)) | exact Kp.drew (Kp.drew (Kp.drew (by assumption))) | exact Kp.drewN (by assumption) _) hkn; clear hkn)
              | (go_at_call 18; (refine (kept_any G C m c _ _ xs (lst bs) _ (by omega) (Kp.owns (by first | assumption | exact Kp.drew (by assumption) | exact Kp.drew (Kp.drew (by assumption)) | exact Kp.drew (Kp.drew (Kp.drew (by assumption))) | exact Kp.drewN (by assumption) _) HOG.out) HPX.out (HRX.out.kp (by first | assumption | exact Kp.drew (by assumption) | exact Kp.drew (Kp.drew (by assumption)) | exact Kp.drew (Kp.drew (Kp.drew (by assumption))) | exact Kp.drewN (by assumption) _))).mono ?_); rintro e wn ⟨rfl, hkn⟩; have hkq := Kp.trans (by first | assumption | exact Kp.drew (by assumption) | exact Kp.drew (Kp.drew (by assumption)) | exact Kp.drew (Kp.drew (Kp.drew (by assumption))) | exact Kp.drewN (by assumption) _) hkn; clear hkn))
            go_ret
            exact ⟨rfl, hkk.trans (by first | assumption | exact Kp.drew (by assumption) | exact Kp.drew (Kp.drew (by assumption)) | exact Kp.drew (Kp.drew (Kp.drew (by assumption))) | exact Kp.drewN (by assumption) _)⟩
        · have d1 : decide ((1 : Int) < (n1 : Int)) = true := by simp; omega
          have d2 : decide ((1 : Int) < (n2 : Int)) = false := by simp; omega
          go_upto_if 119 with fail
          clear d1 d2 a1 a2
          go_wp2_with (first
            | (go_at_call 20; (with_reducible refine (Slide_any _ _ _ _ _ _ _ (lst bs) _ hm1 hm2 (HHG.out.kp (by first | assumption | exact Kp.drew (by assumption) | exact Kp.drew (Kp.drew (by assumption)) | exact Kp.drew (Kp.drew (Kp.drew (by assumption))) | exact Kp.drewN (by assumption) _))).mono ?_); rintro e wn ⟨gs, ss, rfl, hos, hps, hkn⟩; have hkq := Kp.trans (by first | assumption | exact Kp.drew (by assumption) | exact Kp.drew (Kp.drew (by assumption)) | exact Kp.drew (Kp.drew (Kp.drew (by assumption))) | exact Kp.drewN (by assumption) _) hkn; have HY3 := Lib.hid (Rd.of_has (Has.own hos (Nat.le_refl _) hps)); clear hkn hos hps)
            | (go_at_call 21; (with_reducible refine (rSlide_any _ _ _ _ _ _ _ (lst bs) _ hm1' hm2' (HRX.out.kp (by first | assumption | exact Kp.drew (by assumption) | exact Kp.drew (Kp.drew (by assumption)) | exact Kp.drew (Kp.drew (Kp.drew (by assumption))) | exact Kp.drewN (by assumption) _))).mono ?_); rintro e wn ⟨v, rfl, hcz, hkn⟩; have hkq := Kp.trans (by first | assumption | exact Kp.drew (by assumption) | exact Kp.drew (Kp.drew (by assumption)) | exact Kp.drew (Kp.drew (Kp.drew (by assumption))) | exact Kp.drewN (by assumption) _) hkn; obtain ⟨oz3, cz3, rfl, hz3⟩ := hcz.rd; have HY4 := Lib.hid (HY3.out.kp hkn); have HZ3 := Lib.hid hz3; clear hkn hcz hz3)
            | (go_at_call 16; (with_reducible refine (Num_nilk _).mono ?_); rintro e wn ⟨rfl, hkn⟩; have hkq := Kp.trans (by first | assumption | exact Kp.drew (by assumption) | exact Kp.drew (Kp.drew (by assumption)) | exact Kp.drew (Kp.drew (Kp.drew (by assumption))) | exact Kp.drewN (by assumption) _) hkn; have HY5 := Lib.hid (HY4.out.kp hkn); have HZ4 := Lib.hid (HZ3.out.kp hkn); clear hkn)
            | (go_at_call 17; (with_reducible refine (dsameList_yes _ _ m _ _ _ _ (by omega) HY5.out HZ4.out).mono ?_); rintro e wn ⟨rfl, hkn⟩; have hkq := Kp.trans (by first | assumption | exact Kp.drew (by assumption) | exact Kp.drew (Kp.drew (by assumption)) | exact Kp.drew (Kp.drew (Kp.drew (by assumption))) | exact Kp.drewN (by assumption) _) hkn; clear hkn)
            | (go_at_call 18; (refine (kept_any G C m c _ _ xs (lst bs) _ (by omega) (Kp.owns (by first | assumption | exact Kp.drew (by assumption) | exact Kp.drew (Kp.drew (by assumption)) | exact Kp.drew (Kp.drew (Kp.drew (by assumption))) | exact Kp.drewN (by assumption) _) HOG.out) HPX.out (HRX.out.kp (by first | assumption | exact Kp.drew (by assumption) | exact Kp.drew (Kp.drew (by assumption)) | exact Kp.drew (Kp.drew (Kp.drew (by assumption))) | exact Kp.drewN (by assumption) _))).mono ?_); rintro e wn ⟨rfl, hkn⟩; have hkq := Kp.trans (by first | assumption | exact Kp.drew (by assumption) | exact Kp.drew (Kp.drew (by assumption)) | exact Kp.drew (Kp.drew (Kp.drew (by assumption))) | exact Kp.drewN (by assumption) _) hkn; clear hkn))
          go_ret
          exact ⟨rfl, hkk.trans (by first | assumption | exact Kp.drew (by assumption) | exact Kp.drew (Kp.drew (by assumption)) | exact Kp.drew (Kp.drew (Kp.drew (by assumption))) | exact Kp.drewN (by assumption) _)⟩
      · have d1 : decide ((1 : Int) < (n1 : Int)) = false := by simp; omega
        go_upto_if 119 with fail
        clear d1 a1
        go_wp2_with (first
          | (go_at_call 20; (with_reducible refine (Slide_any _ _ _ _ _ _ _ (lst bs) _ hm1 hm2 (HHG.out.kp (by first | assumption | exact Kp.drew (by assumption) | exact Kp.drew (Kp.drew (by assumption)) | exact Kp.drew (Kp.drew (Kp.drew (by assumption))) | exact Kp.drewN (by assumption) _))).mono ?_); rintro e wn ⟨gs, ss, rfl, hos, hps, hkn⟩; have hkq := Kp.trans (by first | assumption | exact Kp.drew (by assumption) | exact Kp.drew (Kp.drew (by assumption)) | exact Kp.drew (Kp.drew (Kp.drew (by assumption))) | exact Kp.drewN (by assumption) _) hkn; have HY3 := Lib.hid (Rd.of_has (Has.own hos (Nat.le_refl _) hps)); clear hkn hos hps)
          | (go_at_call 21; (with_reducible refine (rSlide_any _ _ _ _ _ _ _ (lst bs) _ hm1' hm2' (HRX.out.kp (by first | assumption | exact Kp.drew (by assumption) | exact Kp.drew (Kp.drew (by assumption)) | exact Kp.drew (Kp.drew (Kp.drew (by assumption))) | exact Kp.drewN (by assumption) _))).mono ?_); rintro e wn ⟨v, rfl, hcz, hkn⟩; have hkq := Kp.trans (by first | assumption | exact Kp.drew (by assumption) | exact Kp.drew (Kp.drew (by assumption)) | exact Kp.drew (Kp.drew (Kp.drew (by assumption))) | exact Kp.drewN (by assumption) _) hkn; obtain ⟨oz3, cz3, rfl, hz3⟩ := hcz.rd; have HY4 := Lib.hid (HY3.out.kp hkn); have HZ3 := Lib.hid hz3; clear hkn hcz hz3)
          | (go_at_call 16; (with_reducible refine (Num_nilk _).mono ?_); rintro e wn ⟨rfl, hkn⟩; have hkq := Kp.trans (by first | assumption | exact Kp.drew (by assumption) | exact Kp.drew (Kp.drew (by assumption)) | exact Kp.drew (Kp.drew (Kp.drew (by assumption))) | exact Kp.drewN (by assumption) _) hkn; have HY5 := Lib.hid (HY4.out.kp hkn); have HZ4 := Lib.hid (HZ3.out.kp hkn); clear hkn)
          | (go_at_call 17; (with_reducible refine (dsameList_yes _ _ m _ _ _ _ (by omega) HY5.out HZ4.out).mono ?_); rintro e wn ⟨rfl, hkn⟩; have hkq := Kp.trans (by first | assumption | exact Kp.drew (by assumption) | exact Kp.drew (Kp.drew (by assumption)) | exact Kp.drew (Kp.drew (Kp.drew (by assumption))) | exact Kp.drewN (by assumption) _) hkn; clear hkn)
          | (go_at_call 18; (refine (kept_any G C m c _ _ xs (lst bs) _ (by omega) (Kp.owns (by first | assumption | exact Kp.drew (by assumption) | exact Kp.drew (Kp.drew (by assumption)) | exact Kp.drew (Kp.drew (Kp.drew (by assumption))) | exact Kp.drewN (by assumption) _) HOG.out) HPX.out (HRX.out.kp (by first | assumption | exact Kp.drew (by assumption) | exact Kp.drew (Kp.drew (by assumption)) | exact Kp.drew (Kp.drew (Kp.drew (by assumption))) | exact Kp.drewN (by assumption) _))).mono ?_); rintro e wn ⟨rfl, hkn⟩; have hkq := Kp.trans (by first | assumption | exact Kp.drew (by assumption) | exact Kp.drew (Kp.drew (by assumption)) | exact Kp.drew (Kp.drew (Kp.drew (by assumption))) | exact Kp.drewN (by assumption) _) hkn; clear hkn))
        go_ret
        exact ⟨rfl, hkk.trans (by first | assumption | exact Kp.drew (by assumption) | exact Kp.drew (Kp.drew (by assumption)) | exact Kp.drew (Kp.drew (Kp.drew (by assumption))) | exact Kp.drewN (by assumption) _)⟩
theorem walk_DirectPlays (w : World) (o : Option Addr) (n c : Nat) (bs : Nat → Int) (hb : NumS .u64 w o n bs) (_ : ∀ j, j < n → (Lit.int .u64 (bs j)).wf = true) (hz : n * 8 ≤ 140737488351232)
    (o1 : Option Addr) (n1 c1 : Nat) (b1 : Nat → Int) (hb1 : NumS .u64 w o1 n1 b1) (_ : ∀ j, j < n1 → (Lit.int .u64 (b1 j)).wf = true) (hz1 : n1 * 8 ≤ 140737488351232)
    (o2 : Option Addr) (n2 c2 : Nat) (b2 : Nat → Int) (hb2 : NumS .u64 w o2 n2 b2) (_ : ∀ j, j < n2 → (Lit.int .u64 (b2 j)).wf = true) (hz2 : n2 * 8 ≤ 140737488351232) (E : Nat → Addr) (hE : Errs w E) :
    Calls Tryd.prog 4 #[.slice o n c, .slice o1 n1 c1, .slice o2 n2 c2] w fun e w' => e = .returned (.bool true) ∧ Kp w w' := by
  by_cases h1 : n / 2 < 1 ∨ 1024 < n / 2
  · exact plays_bad o o1 o2 n c n1 c1 n2 c2 bs b1 b2 E w hE (by omega) (by omega) (by omega) hb hb1 hb2 h1
  · by_cases h2 : 200 < n / 2
    · exact plays_wide o o1 o2 n c n1 c1 n2 c2 bs w (by omega) hb h2 (by omega)
    · exact plays_good o o1 o2 n c n1 c1 n2 c2 bs b1 b2 w (by omega) (by omega) (by omega) hb hb1 hb2 (n / 2) rfl (by omega) (by omega)
end Go.Proofs.YtmadbdecbkmjkaaDoor
