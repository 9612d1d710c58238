/-
  The walks of direct.Inverse at bad lengths, and of Slide.
-/
import Derived.Test.YtmadbdecbkmjkaaDoorDInv
namespace Go.Proofs.YtmadbdecbkmjkaaDoor
open Go Go.RowKit Go.Fl Go.Roots

set_option maxRecDepth 100000 in
set_option maxHeartbeats 400000 in
theorem Inverse_none (b : Option Addr) (cap : Nat) (aL : Addr) (w : World) (hL : errAt w 2 aL) :
    Calls Tryd.prog 11 #[.slice b 0 cap] w fun e w' => e = .returned (.tuple #[.slice none 0 0, .iface 96 (.pointer (some aL))]) ∧ Kp w w' := by
  obtain ⟨i0, hi, hz0, hz1, hz2⟩ := info_parts info_c
  have HL := Lib.hid hL
  clear hL
  go_enter Tryd.func11, Tryd.ntmps11
  go_wp2_with (at_make; refine wpList_make_full _ rfl _ _ 26 rfl w.heap.size 27 i0 (.complex .f64 0 0) 1 Tryd.underlying26 hi hz0 hz1 _ _ _ _ 0 rfl rfl rfl rfl (by rw [hz2]; omega) (by unfold maxLen; omega) (Nat.le_refl _) ?_)
  intro w1 hown hgrow
  have hk1 : Kp w w1 := (Kp.refl w).grown hgrow (fun k hk => by cases hk)
  clear hgrow hi hz0 hz1 hz2 hown
  go_wp2_with fail
  refine wp_loop_once ?_
  go_wp2_with (go_at_call 9; (refine (Forward_bad _ 0 _ aL _ (hk1.later HL.out) (by omega)).mono ?_); rintro e w4 ⟨rfl, hk4⟩)
  go_ret2
  exact ⟨rfl, hk1.trans hk4⟩
set_option maxRecDepth 100000 in
set_option maxHeartbeats 400000 in
theorem Inverse_long (g n cap : Nat) (f : Nat → Nat × Nat) (aL : Addr) (w : World) (hL : errAt w 2 aL) (n1 : 1024 < n) (n2 : n * 16 ≤ 140737488355328) (hf : Has w g n f) :
    Calls Tryd.prog 11 #[.slice (some ⟨g, 0, none⟩) n cap] w fun e w' => e = .returned (.tuple #[.slice none 0 0, .iface 96 (.pointer (some aL))]) ∧ Kp w w' := by
  obtain ⟨i0, hi, hz0, hz1, hz2⟩ := info_parts info_c
  have HL := Lib.hid hL
  clear hL
  go_enter Tryd.func11, Tryd.ntmps11
  go_wp2_with (at_make; refine wpList_make_full _ rfl _ _ 26 rfl w.heap.size 27 i0 (.complex .f64 0 0) 1 Tryd.underlying26 hi hz0 hz1 _ _ _ _ n rfl rfl rfl rfl (by rw [hz2]; omega) (by unfold maxLen; omega) (Nat.le_refl _) ?_)
  intro w1 hown hgrow
  have hk1 : Kp w w1 := (Kp.refl w).grown hgrow (fun k hk => by cases hk)
  clear hgrow hi hz0 hz1 hz2
  go_wp2_with fail
  go_loopw [5, 6, 16] (fun _ _ i wr => ∃ (k : Nat) (xs : List Value), k ≤ n ∧ i = .int .i64 k ∧ wr.ownsRow w.heap.size 27 1 (.slice (some ⟨w.heap.size, 0, none⟩) n n) n xs ∧ Kp w wr) (fun _ _ i _ => n - (intOf i).toNat)
  case atStart => exact ⟨0, _, by omega, rfl, hown, hk1⟩
  case round =>
    clear hown hk1
    obtain ⟨k, xs, hk, rfl, hown, hkp⟩ := hrel
    have hlen := hown.1
    by_cases hlt : k < n
    · obtain ⟨c, s, hc0, hc, hs⟩ := hf.kp hkp k hlt
      have hcell := hown.cellAt k (by omega)
      rw [List.getElem?_eq_getElem (show k < xs.length by omega)] at hcell
      have hfr := hown.frozenAt k
      go_wp2_with (go_at_call 32; (refine (Conj_any _ _ _).mono ?_); rintro e w4 ⟨rfl, rfl⟩)
      go_roundw
      case rel => exact ⟨k + 1, _, by omega, by go_num, (hown.stored k _).1, hkp.setCell (Nat.le_refl _) _⟩
      case measure => simp [intOf]; omega
    · obtain rfl : k = n := by omega
      clear hown hlen
      go_wp2_with (go_at_call 9; (refine (Forward_bad _ k _ aL _ (hkp.later HL.out) (by omega)).mono ?_); rintro e w4 ⟨rfl, hk4⟩)
      go_ret2
      exact ⟨rfl, hkp.trans hk4⟩

def csub (p q : Nat × Nat) : Nat × Nat := (sub p.1 q.1, sub p.2 q.2)
def slid (f : Nat → Nat × Nat) (n : Nat) (u v : Nat × Nat) (k : Nat) : Nat × Nat := twist (cadd (csub (f k) u) v) n (-(k : Int))
theorem root_back (n k : Int) : root n (n - k) = root n (-k) := by
  have e : (n - k) % n = (-k) % n := by rw [show n - k = -k + n from by omega, Int.add_emod_right]
  unfold root pair pairP; rw [e]
theorem neg_mod (n k : Nat) (h0 : 0 < k) (h1 : k < n) : (-(k : Int)) % (n : Int) ≠ 0 := by
  rw [show -(k : Int) = (n : Int) - k + n * (-1) from by omega, Int.add_mul_emod_self_left, Int.emod_eq_of_lt (by omega) (by omega)]; omega
theorem slid_zero (f : Nat → Nat × Nat) (n : Nat) (u v : Nat × Nat) : slid f n u v 0 = cadd (csub (f 0) u) v := by
  unfold slid twist; rw [if_pos (by simp)]
theorem slid_pos (f : Nat → Nat × Nat) (n : Nat) (u v : Nat × Nat) (k : Nat) (h0 : 0 < k) (h1 : k < n) : slid f n u v k = cmul (cadd (csub (f k) u) v) (root n ((n - k : Nat) : Int)) := by
  unfold slid twist; rw [if_neg (neg_mod n k h0 h1)]
  rw [show ((n - k : Nat) : Int) = (n : Int) - k from by omega, root_back]
set_option maxRecDepth 100000 in
set_option maxHeartbeats 400000 in
theorem Slide_any (g n cap a b c d : Nat) (f : Nat → Nat × Nat) (w : World) (n1 : 1 ≤ n) (n2 : n ≤ 1024) (hf : Has w g n f) :
    Calls Tryd.prog 20 #[.slice (some ⟨g, 0, none⟩) n cap, .complex .f64 a b, .complex .f64 c d] w fun e w' => ∃ gy xs, e = .returned (.tuple #[.slice (some ⟨gy, 0, none⟩) n n, .nilIface]) ∧
      w'.ownsRow w.heap.size 27 1 (.slice (some ⟨gy, 0, none⟩) n n) n xs ∧ PartC (slid f n (cn a, cn b) (cn c, cn d)) xs n ∧ Kp w w' := by
  obtain ⟨i0, hi, hz0, hz1, hz2⟩ := info_parts info_c
  go_enter Tryd.func20, Tryd.ntmps20
  go_wp2_with (first
    | (go_at_call 29; (refine (table_any n _ n1 n2).mono ?_); rintro e w2 ⟨gw, rfl, hg1, hg2, hW, hkw⟩)
    | (at_make; refine wpList_make_full _ rfl _ _ 26 rfl w2.heap.size 27 i0 (.complex .f64 0 0) 1 Tryd.underlying26 hi hz0 hz1 _ _ _ _ n rfl rfl rfl rfl (by rw [hz2]; omega) (by unfold maxLen; omega) (Nat.le_refl _) ?_))
  intro w3 hown hgrow
  have hk3 : Kp w2 w3 := (Kp.refl w2).grown hgrow (fun k hk => by cases hk)
  have hf2 := hf.kp hkw
  clear hgrow hi hz0 hz1 hz2 hf hg1 hg2
  go_wp2_with fail
  go_loopw [11, 12, 27] (fun _ _ i wr => ∃ (k : Nat) (xs : List Value), k ≤ n ∧ i = .int .i64 k ∧ wr.ownsRow w2.heap.size 27 1 (.slice (some ⟨w2.heap.size, 0, none⟩) n n) n xs ∧ PartC (slid f n (cn a, cn b) (cn c, cn d)) xs k ∧ Kp w2 wr) (fun _ _ i _ => n - (intOf i).toNat)
  case atStart => exact ⟨0, _, by omega, rfl, hown, fun j hj => absurd hj (by omega), hk3⟩
  case round =>
    clear hown hk3
    obtain ⟨k, xs, hk, rfl, hown, hp, hkp⟩ := hrel
    have hlen := hown.1
    by_cases hlt : k < n
    · obtain ⟨x0, y0, q0, hx0, hy0⟩ := hf2.kp hkp k hlt
      have hcell := hown.cellAt k (by omega)
      rw [List.getElem?_eq_getElem (show k < xs.length by omega)] at hcell
      have hfr := hown.frozenAt k
      by_cases hk0 : k = 0
      · subst hk0
        go_wp2_with (first
          | ((with_reducible apply wpList_fl .sub rfl); exact rfl; exact rfl; intro r1 m1 hr1)
          | ((with_reducible apply wpList_fl .add rfl); exact rfl; exact rfl; intro r2 m2 hr2))
        go_roundw
        case rel =>
          refine ⟨1, _, by omega, by go_num, ((owns_drewN hown _).stored 0 _).1, hp.step (by omega) ?_ ?_, (hkp.drewN _).setCell (Nat.le_refl _) _⟩
          · rw [slid_zero]; simp only [cadd, csub, *, fl_add', fl_sub']
          · rw [slid_zero]; simp only [cadd, csub, *, fl_add', fl_sub']
        case measure => simp [intOf]; omega
      · obtain ⟨m, em, hm⟩ : ∃ m : Nat, n - k = m ∧ m < n := ⟨n - k, rfl, by omega⟩
        have ei : (n : Int) - (k : Int) = (m : Int) := by omega
        obtain ⟨cw, sw, qw, hcw, hsw⟩ := hW.kp hkp m hm
        have hsp := slid_pos f n (cn a, cn b) (cn c, cn d) k (by omega) hlt
        rw [em] at hsp
        have HS := Lib.hid hsp
        have hmi : (m : Int) < (n : Int) := by omega
        have kpn : 0 < k := by omega
        have kpi : (0 : Int) < (k : Int) := by omega
        clear hsp em
        go_wp2_with (first
          | (go_at_call 38; (refine (Mul_any _ _ _ _ _).mono ?_); rintro e w1 ⟨x, y, rfl, hx2, hy2, hk2⟩; have hcell1 := hk2.later hcell; have hfr1 := (hk2.owns hown).frozenAt k)
          | ((with_reducible apply wpList_fl .sub rfl); exact rfl; exact rfl; intro r1 m1 hr1)
          | ((with_reducible apply wpList_fl .add rfl); exact rfl; exact rfl; intro r2 m2 hr2))
        go_roundw
        case rel =>
          refine ⟨k + 1, _, by omega, by go_num, ((hk2.owns hown).stored k _).1, hp.step (by omega) ?_ ?_, ((hkp.drewN _).trans hk2).setCell (Nat.le_refl _) _⟩
          · rw [HS.out, hx2]; simp only [cadd, csub, *, fl_add', fl_sub']
          · rw [HS.out, hy2]; simp only [cadd, csub, *, fl_add', fl_sub']
        case measure => simp [intOf]; omega
    · obtain rfl : k = n := by omega
      go_wp2_with fail
      go_ret2
      exact ⟨_, xs, rfl, owns_mono hown hkw.size, hp, hkw.trans hkp⟩
set_option maxRecDepth 100000 in
set_option maxHeartbeats 400000 in
theorem Slide_bad (b : Option Addr) (n cap : Nat) (x y c d : Nat) (aL : Addr) (w : World) (hL : errAt w 2 aL) (h : n < 1 ∨ 1024 < n) :
    Calls Tryd.prog 20 #[.slice b n cap, .complex .f64 x y, .complex .f64 c d] w fun e w' => e = .returned (.tuple #[.slice none 0 0, .iface 96 (.pointer (some aL))]) ∧ Kp w w' := by
  have H : Hid ((n : Int) < 1 ∨ 1024 < (n : Int)) := Lib.hid (by omega)
  have HL := Lib.hid hL
  clear h hL
  go_enter Tryd.func20, Tryd.ntmps20
  go_wp2_with (go_at_call 29; (refine (table_bad _ aL _ HL.out H.out).mono ?_); rintro e w2 ⟨rfl, hk⟩)
  go_ret2
  exact ⟨rfl, hk⟩
end Go.Proofs.YtmadbdecbkmjkaaDoor
