/-
  The walks of cplx.Conj, cplx.Over and direct.Inverse.
-/
import Derived.Test.YtmadbdecbkmjkaaDoorDFwd
namespace Go.Proofs.YtmadbdecbkmjkaaDoor
open Go Go.RowKit Go.Fl Go.Roots

def conj (p : Nat × Nat) : Nat × Nat := (p.1, neg p.2)
def over (p : Nat × Nat) (n : Int) : Nat × Nat := (div p.1 (ofInt n), div p.2 (ofInt n))
def idft (f : Nat → Nat × Nat) (n : Nat) (k : Int) : Nat × Nat := over (conj (dft (fun j => conj (f j)) n k)) n

theorem Conj_any (a b : Nat) (w : World) :
    Calls Tryd.prog 32 #[.complex .f64 a b] w fun e w' => e = .returned (.complex .f64 a (Op.negFloat .f64 b)) ∧ w = w' := by
  go_enter Tryd.func32, Tryd.ntmps32
  go_wp2_with fail
  go_ret
  exact ⟨rfl, rfl⟩
set_option maxRecDepth 100000 in
set_option maxHeartbeats 400000 in
theorem Over_any (a b : Nat) (n : Int) (w : World) :
    Calls Tryd.prog 33 #[.complex .f64 a b, .int .i64 n] w fun e w' => ∃ x y, e = .returned (.complex .f64 x y) ∧ cn x = (over (cn a, cn b) n).1 ∧ cn y = (over (cn a, cn b) n).2 ∧ Kp w w' := by
  have hc := cn_conv n
  go_enter Tryd.func33, Tryd.ntmps33
  go_wp2_with ((with_reducible apply wpList_fl .quo rfl); exact rfl; exact rfl; intro r1 m1 hr1)
  rename_i ra ma hra
  go_ret
  refine ⟨_, _, rfl, ?_, ?_, (Kp.refl _).drewN _⟩
  · rw [hra, hc]; rfl
  · rw [hr1, hc]; rfl

set_option maxRecDepth 100000 in
set_option maxHeartbeats 400000 in
theorem Inverse_any (g n cap : Nat) (f : Nat → Nat × Nat) (w : World) (n1 : 1 ≤ n) (n2 : n ≤ 1024) (hf : Has w g n f) :
    Calls Tryd.prog 11 #[.slice (some ⟨g, 0, none⟩) n cap] w fun e w' => ∃ gy xs, e = .returned (.tuple #[.slice (some ⟨gy, 0, none⟩) n n, .nilIface]) ∧
      w'.ownsRow w.heap.size 27 1 (.slice (some ⟨gy, 0, none⟩) n n) n xs ∧ PartC (fun j => idft f n j) xs n ∧ Kp w w' := by
  obtain ⟨i0, hi, hz0, hz1, hz2⟩ := info_parts info_c
  go_enter Tryd.func11, Tryd.ntmps11
  go_wp2_with (at_make; refine wpList_make_full _ rfl _ _ 26 rfl w.heap.size 27 i0 (.complex .f64 0 0) 1 Tryd.underlying26 hi hz0 hz1 _ _ _ _ n rfl rfl rfl rfl (by rw [hz2]; omega) (by unfold maxLen; omega) (Nat.le_refl _) ?_)
  intro w1 hown hgrow
  have hk1 : Kp w w1 := (Kp.refl w).grown hgrow (fun k hk => by cases hk)
  clear hgrow hi hz0 hz1 hz2
  go_wp2_with fail
  go_loopw [5, 6, 16] (fun _ _ i wr => ∃ (k : Nat) (xs : List Value), k ≤ n ∧ i = .int .i64 k ∧ wr.ownsRow w.heap.size 27 1 (.slice (some ⟨w.heap.size, 0, none⟩) n n) n xs ∧ PartC (fun j => conj (f j)) xs k ∧ Kp w wr) (fun _ _ i _ => n - (intOf i).toNat)
  case atStart => exact ⟨0, _, by omega, rfl, hown, fun j hj => absurd hj (by omega), hk1⟩
  case round =>
    clear hown hk1
    obtain ⟨k, xs, hk, rfl, hown, hp, hkp⟩ := hrel
    have hlen := hown.1
    by_cases hlt : k < n
    · obtain ⟨c, s, hc0, hc, hs⟩ := hf.kp hkp k hlt
      have hcell := hown.cellAt k (by omega)
      rw [List.getElem?_eq_getElem (show k < xs.length by omega)] at hcell
      have hfr := hown.frozenAt k
      go_wp2_with (go_at_call 32; (refine (Conj_any _ _ _).mono ?_); rintro e w4 ⟨rfl, rfl⟩)
      go_roundw
      case rel => exact ⟨k + 1, _, by omega, by go_num, (hown.stored k _).1, hp.step (by omega) hc (by rw [cn_negFloat, hs]; rfl), hkp.setCell (Nat.le_refl _) _⟩
      case measure => simp [intOf]; omega
    · obtain rfl : k = n := by omega
      have hfc : Has wr w.heap.size k (fun j => conj (f j)) := Has.own hown (Nat.le_refl _) hp
      clear hown hp hlen
      go_wp2_with (go_at_call 9; (refine (Forward_any _ k _ _ _ n1 n2 hfc).mono ?_); rintro e w4 ⟨gy, ys, rfl, hoy, hpy, hk4⟩)
      have hgy := (hoy.lt gy rfl).1
      go_loopw [9, 10, 37] (fun _ _ i wr2 => ∃ (j : Nat) (zs : List Value), j ≤ k ∧ i = .int .i64 j ∧ wr2.ownsRow w.heap.size 27 1 (.slice (some ⟨gy, 0, none⟩) k k) k zs ∧ PartC (fun i => if i < j then idft f k i else dft (fun j => conj (f j)) k i) zs k ∧ Kp w wr2) (fun _ _ i _ => k - (intOf i).toNat)
      case atStart =>
        refine ⟨0, ys, by omega, rfl, owns_mono hoy hkp.size, ?_, hkp.trans hk4⟩
        intro j hj
        obtain ⟨c, s, h1, h2, h3⟩ := hpy j hj
        exact ⟨c, s, h1, by dsimp only; rw [if_neg (by omega)]; exact h2, by dsimp only; rw [if_neg (by omega)]; exact h3⟩
      case round =>
        clear hoy hpy hfc
        obtain ⟨j, zs, hj, rfl, hoz, hpz, hkz⟩ := hrel
        have hlen := hoz.1
        by_cases hl2 : j < k
        · obtain ⟨c, s, hx, hc, hs⟩ := hpz j hl2
          dsimp only at hc hs
          rw [if_neg (by omega)] at hc hs
          have hcell := hoz.cellAt j (by omega)
          rw [hx] at hcell
          go_wp2_with (first
            | (go_at_call 32; (refine (Conj_any _ _ _).mono ?_); rintro e w4 ⟨rfl, rfl⟩)
            | (go_at_call 33; (refine (Over_any _ _ _ _).mono ?_); rintro e w5 ⟨x, y, rfl, hx2, hy2, hk5⟩; have hcell5 := hk5.later hcell; have hfr5 := (hk5.owns hoz).frozenAt j))
          go_roundw
          case rel =>
            refine ⟨j + 1, _, by omega, by go_num, ((hk5.owns hoz).stored j _).1, ?_, (hkz.trans hk5).setCell (by show w.heap.size ≤ gy; have := hkp.size; omega) _⟩
            intro i hi
            by_cases e : i = j
            · subst e
              refine ⟨x, y, by rw [List.getElem?_set_self (by omega)], ?_, ?_⟩
              · dsimp only; rw [if_pos (by omega), hx2, cn_negFloat, hc, hs]; rfl
              · dsimp only; rw [if_pos (by omega), hy2, cn_negFloat, hc, hs]; rfl
            · obtain ⟨c', s', h1, h2, h3⟩ := hpz i hi
              refine ⟨c', s', by rw [List.getElem?_set_ne (by omega)]; exact h1, ?_, ?_⟩
              · rw [h2]; dsimp only; by_cases hij : i < j
                · rw [if_pos hij, if_pos (by omega)]
                · rw [if_neg hij, if_neg (by omega)]
              · rw [h3]; dsimp only; by_cases hij : i < j
                · rw [if_pos hij, if_pos (by omega)]
                · rw [if_neg hij, if_neg (by omega)]
          case measure => simp [intOf]; omega
        · obtain rfl : j = k := by omega
          go_wp2_with fail
          go_ret2
          refine ⟨_, zs, rfl, hoz, ?_, hkz⟩
          intro i hi
          obtain ⟨c', s', h1, h2, h3⟩ := hpz i hi
          dsimp only at h2 h3
          rw [if_pos hi] at h2 h3
          exact ⟨c', s', h1, h2, h3⟩
end Go.Proofs.YtmadbdecbkmjkaaDoor
