/-
  The walks of the reference of layer 10: One, Inverse, Slide.
-/
import Derived.Test.YtmadbdecbkmjkaaDoorDRef2
namespace Go.Proofs.YtmadbdecbkmjkaaDoor
open Go Go.RowKit Go.Fl Go.Roots

theorem Rd.of_has {w : World} {g n : Nat} {f : Nat → Nat × Nat} (h : Has w g n f) : Rd w (some ⟨g, 0, none⟩) n f := fun _ => ⟨g, rfl, h⟩
theorem Has.congr {w : World} {g n : Nat} {f f' : Nat → Nat × Nat} (h : Has w g n f) (e : ∀ j, j < n → f j = f' j) : Has w g n f' := fun j hj => by rw [← e j hj]; exact h j hj
theorem PartC.congr {xs : List Value} {n : Nat} {f f' : Nat → Nat × Nat} (h : PartC f xs n) (e : ∀ j, j < n → f j = f' j) : PartC f' xs n := fun j hj => by rw [← e j hj]; exact h j hj
set_option maxRecDepth 100000 in
set_option maxHeartbeats 1000000 in
theorem rInverse_any (o : Option Addr) (n cap : Nat) (f : Nat → Nat × Nat) (w : World) (n1 : 1 ≤ n) (n2 : n ≤ 1024) (hf : Rd w o n f) :
    Calls Tryd.prog 19 #[.slice o n cap] w fun e w' => ∃ v, e = .returned (.tuple #[v, .int .i64 0]) ∧ CO w' w.heap.size v n (fun k => idft f n k) ∧ Kp w w' := by
  have HF := Lib.hid hf
  have cv := cn_conv n
  clear hf
  go_enter Tryd.func19, Tryd.ntmps19
  go_wp2_with (first
    | (go_at_call 37; (with_reducible refine (rConj_any o n cap f _ (by omega) HF.out).mono ?_); rintro e w1 ⟨v1, rfl, hC1, hk1⟩; obtain ⟨g1, c1, rfl, hH1⟩ := hC1.some (by omega); have H1 := Lib.hid hH1; clear hC1 hH1)
    | (go_at_call 15; (with_reducible refine (rForward_any _ n _ _ _ n1 n2 (Rd.of_has H1.out)).mono ?_); rintro e w2 ⟨v2, rfl, hC2, hk2⟩; obtain ⟨g2, c2, rfl, hH2⟩ := hC2.some (by omega); have H2 := Lib.hid hH2; clear hC2 hH2 H1)
    | (go_at_call 37; (with_reducible refine (rConj_any (some ⟨g2, 0, none⟩) n c2 _ _ (by omega) (Rd.of_has H2.out)).mono ?_); rintro e w3 ⟨v3, rfl, hC3, hk3⟩; obtain ⟨xs0, hown0, hp0⟩ := hC3; obtain ⟨g3, c3, rfl⟩ := owns_form hown0 (by omega)))
  have hkk := (hk1.trans hk2).trans hk3
  have hsz := (hk1.trans hk2).size
  have hg3 := (hown0.lt g3 rfl).1
  clear hk1 hk2 H2
  go_loopw [7, 8, 25] (fun _ _ i wr => ∃ (j : Nat) (zs : List Value), j ≤ n ∧ i = .int .i64 j ∧ wr.ownsRow w.heap.size 27 1 (.slice (some ⟨g3, 0, none⟩) n c3) n zs ∧ PartC (fun i => if i < j then idft f n i else conj (dft (fun j => conj (f j)) n i)) zs n ∧ Kp w wr) (fun _ _ i _ => n - (intOf i).toNat)
  case atStart =>
    refine ⟨0, xs0, by omega, rfl, owns_mono hown0 hsz, hp0.congr (fun i hi => by rw [if_neg (by omega)]), hkk⟩
  case round =>
    clear hown0 hp0 hkk hk3
    obtain ⟨j, zs, hj, rfl, hoz, hpz, hkz⟩ := hrel
    have hlen := hoz.1
    by_cases hl2 : j < n
    · obtain ⟨c, s, hx, hc, hs⟩ := hpz j hl2
      dsimp only at hc hs
      rw [if_neg (by omega)] at hc hs
      have hcell := hoz.cellAt j (by omega)
      rw [hx] at hcell
      have hfr := hoz.frozenAt j
      go_wp2_with ((with_reducible apply wpList_fl .quo rfl); exact rfl; exact rfl; intro r1 m1 hr1)
      rename_i ra ma hra
      go_roundw
      case rel =>
        refine ⟨j + 1, _, by omega, by go_num, ((owns_drewN hoz _).stored j _).1, ?_, (hkz.drewN _).setCell (by show w.heap.size ≤ g3; omega) _⟩
        intro i hi
        by_cases e : i = j
        · subst e
          refine ⟨ra, r1, by rw [List.getElem?_set_self (by omega)], ?_, ?_⟩
          · dsimp only; rw [if_pos (by omega), hra, hc, cv]; rfl
          · dsimp only; rw [if_pos (by omega), hr1, hs, cv]; rfl
        · obtain ⟨c', s', h1, h2, h3⟩ := hpz i hi
          refine ⟨c', s', by rw [List.getElem?_set_ne (by omega)]; exact h1, ?_, ?_⟩
          · rw [h2]; dsimp only; by_cases hij : i < j
            · rw [if_pos hij, if_pos (by omega)]
            · rw [if_neg hij, if_neg (by omega)]
          · rw [h3]; dsimp only; by_cases hij : i < j
            · rw [if_pos hij, if_pos (by omega)]
            · rw [if_neg hij, if_neg (by omega)]
      case measure => simp [intOf]; omega
    · obtain rfl : j = n := by omega
      go_wp2_with fail
      go_ret2
      exact ⟨_, rfl, ⟨zs, hoz, hpz.congr (fun i hi => by rw [if_pos hi])⟩, hkz⟩
set_option maxHeartbeats 400000 in
theorem rInverse_bad (o : Option Addr) (n cap : Nat) (f : Nat → Nat × Nat) (w : World) (hn : n ≤ 8796093022207) (hf : Rd w o n f) (h : n < 1 ∨ 1024 < n) :
    Calls Tryd.prog 19 #[.slice o n cap] w fun e w' => e = .returned (.tuple #[.slice none 0 0, .int .i64 7]) ∧ Kp w w' := by
  have HF := Lib.hid hf
  have H := Lib.hid h
  clear hf h
  go_enter Tryd.func19, Tryd.ntmps19
  go_wp2_with (first
    | (go_at_call 37; (with_reducible refine (rConj_any o n cap f _ hn HF.out).mono ?_); rintro e w1 ⟨v1, rfl, hC1, hk1⟩; obtain ⟨o1, c1, rfl, _⟩ := hC1.rd; clear hC1)
    | (go_at_call 15; (with_reducible refine (rForward_bad _ n _ _ H.out).mono ?_); rintro e w2 ⟨rfl, rfl⟩))
  go_ret2
  exact ⟨rfl, hk1⟩
set_option maxRecDepth 100000 in
set_option maxHeartbeats 1000000 in
theorem rSlide_any (o : Option Addr) (n cap a b c d : Nat) (f : Nat → Nat × Nat) (w : World) (n1 : 1 ≤ n) (n2 : n ≤ 1024) (hf : Rd w o n f) :
    Calls Tryd.prog 21 #[.slice o n cap, .complex .f64 a b, .complex .f64 c d] w fun e w' => ∃ v, e = .returned (.tuple #[v, .int .i64 0]) ∧ CO w' w.heap.size v n (slid f n (cn a, cn b) (cn c, cn d)) ∧ Kp w w' := by
  obtain ⟨i0, hi, hz0, hz1, hz2⟩ := info_parts info_c
  obtain ⟨g, rfl, hfg⟩ := hf (by omega)
  have hown0 := owns_empty w
  have hk0 : Kp w (w.alloc (.cells #[] 27)) := (Kp.refl w).alloc _
  have b1 : decide ((n : Int) < 1) = false := by simp; omega
  have b2 : decide ((1024 : Int) < n) = false := by simp; omega
  clear hf
  go_enter Tryd.func21, Tryd.ntmps21
  go_wp2_with fail
  go_loopw [9, 10, 11, 12, 24] (fun v _ _ _ i wr => ∃ (k : Nat) (xs : List Value), k ≤ n ∧ i = .int .i64 k ∧ wr.ownsRow w.heap.size 27 1 v k xs ∧ PartC (slid f n (cn a, cn b) (cn c, cn d)) xs k ∧ Kp w wr) (fun _ _ _ _ i _ => n - (intOf i).toNat)
  case atStart => exact ⟨0, [], by omega, rfl, hown0, fun j hj => absurd hj (by omega), hk0⟩
  case round =>
    clear hown0 hk0
    obtain ⟨k, xs, hk, rfl, hown, hp, hkp⟩ := hrel
    have hlen := hown.1
    by_cases hlt : k < n
    · obtain ⟨x0, y0, q0, hx0, hy0⟩ := hfg.kp hkp k hlt
      go_wp2_with (first
        | (go_at_call 40; (with_reducible refine (Less_any _ _ _ _ _).mono ?_); rintro e w1 ⟨x1, y1, rfl, hx1, hy1, hk1⟩)
        | (go_at_call 39; (with_reducible refine (Plus_any _ _ _ _ _).mono ?_); rintro e w2 ⟨x2, y2, rfl, hx2, hy2, hk2⟩)
        | (go_at_call 41; (with_reducible refine (rTwist_any _ _ _ _ _ (by omega) (by omega)).mono ?_); rintro e w3 ⟨x3, y3, rfl, hx3, hy3, hk3⟩; have hown2 := ((hk1.trans hk2).trans hk3).owns hown; have hkp2 := ((hkp.trans hk1).trans hk2).trans hk3; clear hkp hown hk1 hk2 hk3 q0)
        | (at_builtin; refine wpList_append_own _ rfl _ _ 26 rfl w.heap.size 27 i0 (.complex .f64 0 0) 1 16 Tryd.underlying26 hi hz0 hz1 hz2 rfl (by decide) _ _ _ rfl (hown2.alloc _) ⟨w3.heap.size, 0, none⟩ 1 1 [.complex .f64 x3 y3] rfl rfl ?c1 ?c2 ?c3 ?c4 ?c5 ?_))
      case c1 => exact cell_one_new _ _ _
      case c2 => simp [Value.oneCell']
      case c3 => unfold maxLen; omega
      case c4 => omega
      case c5 => have e1 := hkp2.size; simp; omega
      intro v' w5 hown5 hg _
      have hk5 : Kp w w5 := (hkp2.alloc _).grown hg (fun j hj => (hown2.lt j hj).1)
      have hp5 := hp.snoc (c := x3) (s := y3) (by simpa using hlen) (by rw [hx3, hx2, hy2, hx1, hy1, hx0, hy0]; rfl) (by rw [hy3, hx2, hy2, hx1, hy1, hx0, hy0]; rfl)
      clear hg hx3 hx2 hx1 hx0 hy3 hy2 hy1 hy0
      go_wp2_with fail
      go_roundw
      case rel => exact ⟨k + 1, _, by omega, by go_num, hown5, hp5, hk5⟩
      case measure => simp [intOf]; omega
    · obtain rfl : k = n := by omega
      go_wp2_with fail
      go_ret2
      exact ⟨_, rfl, ⟨xs, hown, hp⟩, hkp⟩
theorem rSlide_bad (o : Option Addr) (n cap a b c d : Nat) (w : World) (h : n < 1 ∨ 1024 < n) :
    Calls Tryd.prog 21 #[.slice o n cap, .complex .f64 a b, .complex .f64 c d] w fun e w' => e = .returned (.tuple #[.slice none 0 0, .int .i64 7]) ∧ w = w' := by
  rcases h with h | h
  · have b1 : decide ((n : Int) < 1) = true := by simp; omega
    go_enter Tryd.func21, Tryd.ntmps21
    go_wp2_with fail
    go_ret2
    exact ⟨rfl, rfl⟩
  · have b1 : decide ((n : Int) < 1) = false := by simp; omega
    have b2 : decide ((1024 : Int) < n) = true := by simp; omega
    go_enter Tryd.func21, Tryd.ntmps21
    go_wp2_with fail
    go_ret2
    exact ⟨rfl, rfl⟩
end Go.Proofs.YtmadbdecbkmjkaaDoor
