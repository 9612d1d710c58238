/-
  The walk of DirectSpread: elements alone, over the list spread out.
-/
import Derived.Test.YtmadbdecbkmjkaaDoorDSpread
namespace Go.Proofs.YtmadbdecbkmjkaaDoor
open Go Go.RowKit Go.Fl Go.Roots

set_option maxRecDepth 100000 in
set_option maxHeartbeats 8000000 in
theorem spread_ok (ob : Option Addr) (nb cb : Nat) (bs : Nat → Int) (at' jump k : Int) (w : World) (hn : nb ≤ 17592186043904) (hb : Wd w ob nb bs) (m : Nat) (hm : nb / 2 = m) (hm1 : 1 ≤ m) (hm2 : m ≤ 200) :
    Calls Tryd.prog 6 #[.slice ob nb cb, .int .i64 at', .int .i64 jump, .int .i64 k] w fun e w' => e = .returned (.bool true) ∧ Kp w w' := by
  obtain ⟨i0, hi, hz0, hz1, hz2⟩ := info_parts info_c
  have HB : Hid (∀ w', Kp w w' → Calls Tryd.prog 12 #[.slice ob nb cb] w' fun e w'' => ∃ g c, e = .returned (.slice (some ⟨g, 0, none⟩) m c) ∧ Has w'' g m (lst bs) ∧ Kp w' w'') := Lib.hid fun w' h => by
    refine (listOf_any ob nb cb bs w' (by omega) (hb.kp h)).mono ?_
    rintro e w1 ⟨v, rfl, ⟨xs, hox, hpx⟩, ⟨g, c, rfl⟩, hk1⟩
    rw [hm] at hox hpx ⊢
    exact ⟨g, c, rfl, Has.own hox (Nat.le_refl _) hpx, hk1⟩
  have HN := Lib.hid (spread_nums at' jump k m hm1 hm2)
  have HM := Lib.hid (And.intro hm1 hm2)
  have dm1 : ((m : Int) == 0) = false := by rw [beq_eq_false_iff_ne]; omega
  have dm2 : decide ((200 : Int) < (m : Int)) = false := by simp; omega
  clear hb hm
  go_enter Tryd.func6, Tryd.ntmps6
  go_upto_region 12 with (first
    | (go_at_call 8; (with_reducible refine (dlives_any _).mono ?_); rintro e w0 ⟨rfl, hk0⟩)
    | (go_at_call 12; (with_reducible refine (HB.out _ hk0).mono ?_); rintro e w1 ⟨g, c, rfl, hgx, hk1⟩)
    | (go_at_call 9; (with_reducible refine (Forward_any _ _ _ (lst bs) _ hm1 (by omega) hgx).mono ?_); rintro e w2 ⟨gy, ys, rfl, hoy, hpy, hk2⟩))
  obtain ⟨A, J, K, M1, X, Z, ⟨hA7, hJ1, hJ6, hKm, hX1, hM1⟩, ⟨qA, qJ, qK⟩, hX, hZ⟩ := HN.out
  rw [qA, qJ]
  have HK := Lib.hid qK
  have HXm := Lib.hid hX
  have eM : (m : Int) - 1 = (M1 : Int) := by omega
  have eX : IntKind.i64.wrap ((M1 : Int) * (J : Int)) = (X : Int) := by rw [← Int.natCast_mul, hX]; exact IntWalk.i64_in _ (by omega)
  have eZ : (A : Int) + (X : Int) + 1 = (Z : Int) := by omega
  clear HN qA qJ qK hX
  have hk02 := (hk0.trans hk1).trans hk2
  have HGX := Lib.hid (hgx.kp hk2)
  have HGY : Hid (Has w2 gy m (fun j => dft (lst bs) m j)) := Lib.hid (Has.own hoy (Nat.le_refl _) hpy)
  clear hgx hoy hpy hk0 hk1 hk2 dm1 dm2 HB
  go_wp2_with (at_make; refine wpList_make_full _ rfl _ _ 26 rfl w2.heap.size 27 i0 (.complex .f64 0 0) 1 Tryd.underlying26 hi hz0 hz1 _ _ _ _ Z rfl rfl rfl rfl (by rw [hz2]; omega) (by unfold maxLen; omega) (Nat.le_refl _) ?_)
  intro w3 hown hgrow
  have hk3 : Kp w2 w3 := (Kp.refl w2).grown hgrow (fun k hk => by cases hk)
  clear hgrow hi hz0 hz1 hz2
  go_wp2_with fail
  go_loopw [14, 68] (fun _ y wr => ∃ (i : Nat) (xs : List Value), i ≤ Z ∧ y = .int .i64 i ∧ wr.ownsRow w2.heap.size 27 1 (.slice (some ⟨w2.heap.size, 0, none⟩) Z Z) Z xs ∧ Hid (AllC xs Z) ∧ Kp w2 wr) (fun _ y _ => Z - (intOf y).toNat)
  case atStart => exact ⟨0, _, by omega, rfl, hown, Lib.hid (fun j hj => ⟨0, 0, by simp [toList_madeCells_one, hj]⟩), hk3⟩
  case round =>
    clear hown hk3
    obtain ⟨i, xs, hiZ, rfl, hown, HAC, hk3⟩ := hrel
    have hlen := hown.1
    by_cases hlt : i < Z
    · have hcell := hown.cellAt i (by omega)
      rw [List.getElem?_eq_getElem (show i < xs.length by omega)] at hcell
      have hfr := hown.frozenAt i
      have HAC' := Lib.hid (HAC.out.set i 9221120237041090561 9218868437227405312 (by omega))
      go_wp2_with (first
        | (go_at_call 25; (with_reducible refine (NaN_run _).mono ?_); rintro e wn ⟨rfl, rfl⟩)
        | (go_at_call 26; (with_reducible refine (Inf_run _).mono ?_); rintro e wn ⟨rfl, rfl⟩))
      go_roundw
      case rel => exact ⟨i + 1, _, by omega, by go_num, (hown.stored i _).1, HAC', hk3.setCell (Nat.le_refl _) _⟩
      case measure => simp [intOf]; omega
    · go_wp2_with fail
      obtain ⟨wo, hwo⟩ : ∃ wo : World, wo = wr := ⟨_, rfl⟩
      rw [← hwo] at hown hk3 ⊢
      clear hwo wr hlt hiZ hlen
      go_loopw [15, 16, 80] (fun _ _ y wr => ∃ (i : Nat) (xs : List Value), i ≤ m ∧ y = .int .i64 i ∧ wr.ownsRow w2.heap.size 27 1 (.slice (some ⟨w2.heap.size, 0, none⟩) Z Z) Z xs ∧ Hid (AllC xs Z ∧ Put (lst bs) xs A J i) ∧ Kp w2 wr) (fun _ _ y _ => m - (intOf y).toNat)
      case atStart => exact ⟨0, xs, by omega, rfl, hown, Lib.hid ⟨HAC.out, fun j hj => absurd hj (by omega)⟩, hk3⟩
      case round =>
        clear hown hk3 HAC
        obtain ⟨i, xs, him, rfl, hown, HAC, hk3⟩ := hrel
        have hlen := hown.1
        by_cases hlt : i < m
        · obtain ⟨c1, s1, q1, hc1, hs1⟩ := (HGX.out.kp hk3) i hlt
          have hpX : i * J ≤ X := by rw [← HXm.out]; exact Nat.mul_le_mul (by omega) (Nat.le_refl _)
          obtain ⟨p, hp⟩ : ∃ p, i * J = p := ⟨_, rfl⟩
          rw [hp] at hpX
          obtain ⟨r, hr⟩ : ∃ r, A + p = r := ⟨_, rfl⟩
          have em : (i : Int) * (J : Int) = (p : Int) := by rw [← hp, Int.natCast_mul]
          have ea : (A : Int) + (p : Int) = (r : Int) := by omega
          have hrZ : r < Z := by omega
          have ew1 : IntKind.i64.wrap (p : Int) = (p : Int) := IntWalk.i64_in _ (by clear em; omega)
          have ew2 : IntKind.i64.wrap (r : Int) = (r : Int) := IntWalk.i64_in _ (by clear em; omega)
          have HPR := Lib.hid (And.intro hp hr)
          clear hp hr
          have hcell := hown.cellAt r (by omega)
          rw [List.getElem?_eq_getElem (show r < xs.length by omega)] at hcell
          have hfr := hown.frozenAt r
          have HAC' := Lib.hid (And.intro (HAC.out.1.set r c1 s1 (by omega)) (show Put (lst bs) (xs.set r (.complex .f64 c1 s1)) A J (i + 1) from by rw [← HPR.out.2, ← HPR.out.1]; exact HAC.out.2.step hJ1 (by rw [HPR.out.1, HPR.out.2]; omega) hc1 hs1))
          clear hc1 hs1
          go_wp2_with fail
          go_roundw
          case rel => exact ⟨i + 1, _, by omega, by go_num, (hown.stored r _).1, HAC', hk3.setCell (Nat.le_refl _) _⟩
          case measure => simp [intOf]; omega
        · obtain rfl : m = i := by omega
          have hHZ : Has wr w2.heap.size Z (fz xs) := Has.own hown (Nat.le_refl _) HAC.out.1.part
          have HZ := Lib.hid (And.intro hHZ (HAC.out.2.fz))
          clear hHZ hown hlen HAC hlt him
          obtain ⟨wo2, hwo2⟩ : ∃ wo2 : World, wo2 = wr := ⟨_, rfl⟩
          rw [← hwo2] at HZ hk3 ⊢
          clear hwo2 wr
          go_upto_region 24 with fail
          rw [HK.out]
          have HGX2 := Lib.hid (HGX.out.kp hk3)
          have HGY2 := Lib.hid (HGY.out.kp hk3)
          have hk02 := hk02.trans hk3
          clear HGX HGY hk3 HK eX eZ
          go_wp2_with fail
          obtain ⟨wb, hwb⟩ : ∃ wb : World, wb = wo2.alloc (.cells #[.int .i64 (K : Int), .int .i64 ((K : Int) + (m : Int)), .int .i64 ((K : Int) - (m : Int)), .int .i64 0, .int .i64 (M1 : Int)] 3) := ⟨_, rfl⟩
          have hkb : Kp wo2 wb := by rw [hwb]; exact (Kp.refl _).alloc _
          have HBX : Hid (∀ j, j < 5 → wb.cell? ⟨wo2.heap.size, j, none⟩ = some (.int .i64 (qs5 K ((K : Int) + m) ((K : Int) - m) 0 M1 j))) := Lib.hid fun j hj => by rw [hwb]; exact box5 wo2 _ _ _ _ _ _ j hj
          rw [← hwb]
          clear hwb
          go_loopw [18, 19, 20, 21, 22, 23, 111] (fun _ _ _ _ _ _ y wr => ∃ t : Nat, t ≤ 5 ∧ y = .int .i64 t ∧ Kp wb wr) (fun _ _ _ _ _ _ y _ => 5 - (intOf y).toNat)
          case atStart => exact ⟨0, by omega, rfl, Kp.refl _⟩
          case round =>
            obtain ⟨t, ht, rfl, hkr⟩ := hrel
            by_cases hlt : t < 5
            · have hq := hkr.later (HBX.out t hlt)
              obtain ⟨l1, l2⟩ := qs5_in K m M1 hKm hm2 hM1 t
              generalize qs5 K ((K : Int) + m) ((K : Int) - m) 0 M1 t = q at *
              obtain ⟨r, hr⟩ := Int.eq_ofNat_of_zero_le (Int.emod_nonneg q (show (m : Int) ≠ 0 by omega))
              have hrm : r < m := by have := Int.emod_lt_of_pos q (show 0 < (m : Int) by omega); omega
              obtain ⟨er, l3, l4⟩ := mod_go q m (by omega)
              rw [hr] at er
              have A1 : Hid (∀ w', Kp wb w' → Calls Tryd.prog 22 #[.slice (some ⟨g, 0, none⟩) m c, .int .i64 0, .int .i64 1, .int .i64 m, .int .i64 q] w' fun e w'' => ∃ c s, e = .returned (.tuple #[.complex .f64 c s, .nilIface]) ∧ cn c = (dft (lst bs) m r).1 ∧ cn s = (dft (lst bs) m r).2 ∧ Kp w' w'') := Lib.hid fun w' h => at_plain bs g m c q r w' HM.out.1 hm2 hr ((HGX2.out.kp hkb).kp h)
              have A2 : Hid (∀ w', Kp wb w' → Calls Tryd.prog 22 #[.slice (some ⟨w2.heap.size, 0, none⟩) Z Z, .int .i64 A, .int .i64 J, .int .i64 m, .int .i64 q] w' fun e w'' => ∃ c s, e = .returned (.tuple #[.complex .f64 c s, .nilIface]) ∧ cn c = (dft (lst bs) m r).1 ∧ cn s = (dft (lst bs) m r).2 ∧ Kp w' w'') := Lib.hid fun w' h => at_wide bs xs _ m A J M1 X Z q r w' HM.out.1 hm2 hJ1 hJ6 hA7 hM1 HXm.out hX1 hZ hr ((HZ.out.1.kp hkb).kp h) HZ.out.2
              have HR := Lib.hid hr
              clear hr
              go_wp2_with (first
                | (go_at_call 22; (with_reducible refine (A1.out _ hkr).mono ?_); rintro e wx ⟨c1, s1, rfl, hc1, hs1, hkx⟩; have hkr1 := hkr.trans hkx; clear hkr hkx hq)
                | (go_at_call 22; (with_reducible refine (A2.out _ hkr1).mono ?_); rintro e wx ⟨c2, s2, rfl, hc2, hs2, hkx⟩; have hkr2 := hkr1.trans hkx; obtain ⟨c3, s3, q3, hc3, hs3⟩ := (HGY2.out.kp (hkb.trans hkr2)) r hrm; have HE1 := Lib.hid (And.intro (hc1.trans hc3.symm) (hs1.trans hs3.symm)); have HE2 := Lib.hid (And.intro (hc2.trans hc3.symm) (hs2.trans hs3.symm)); clear hc1 hs1 hc2 hs2 hc3 hs3 hkr1 hkx)
                | (go_at_call 24; (with_reducible refine (dsame_yes _ _ _ _ _ HE1.out.1 HE1.out.2).mono ?_); rintro e w6 ⟨rfl, rfl⟩)
                | (go_at_call 24; (with_reducible refine (dsame_yes _ _ _ _ _ HE2.out.1 HE2.out.2).mono ?_); rintro e w6 ⟨rfl, rfl⟩))
              go_roundw
              case rel => exact ⟨t + 1, by omega, by go_num, hkr2⟩
              case measure => simp [intOf]; omega
            · go_wp2_with fail
              go_ret
              exact ⟨rfl, (hk02.trans hkb).trans hkr⟩
theorem walk_DirectSpread (w : World) (o : Option Addr) (n c : Nat) (bs : Nat → Int) (hb : NumS .u64 w o n bs) (_ : ∀ j, j < n → (Lit.int .u64 (bs j)).wf = true) (hz : n * 8 ≤ 140737488351232)
    (at' : Int) (_ : (Lit.int .i64 at').wf = true) (jump : Int) (_ : (Lit.int .i64 jump).wf = true) (k : Int) (_ : (Lit.int .i64 k).wf = true) :
    Calls Tryd.prog 6 #[.slice o n c, .int .i64 at', .int .i64 jump, .int .i64 k] w fun e w' => e = .returned (.bool true) ∧ Kp w w' := by
  by_cases h : n / 2 < 1 ∨ 200 < n / 2
  · exact spread_none o n c bs at' jump k w (by omega) hb h
  · exact spread_ok o n c bs at' jump k w (by omega) hb (n / 2) rfl (by omega) (by omega)
end Go.Proofs.YtmadbdecbkmjkaaDoor
