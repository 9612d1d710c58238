/-
  The walk of DirectWhole.
-/
import Derived.Test.YtmadbdecbkmjkaaDoorDExS
import Derived.Test.YtmadbdecbkmjkaaDoorDTurn
import Derived.Test.YtmadbdecbkmjkaaDoorOpen
import Derived.Deep.DeepCutAuto
import Derived.Deep.CutBlock
import Derived.Deep.OwnRows
import Derived.Deep.RegionHeld3
import Derived.Deep.AppendLies
namespace Go.Proofs.YtmadbdecbkmjkaaDoor
open Go Go.RowKit Go.Fl Go.Roots

theorem info_l : (Tryd.prog.info? 2).map (fun i => (i.zero, i.size, i.bytes)) = some (some (.int .i64 0), 1, 8) := by kernel_rfl
theorem whole_num (size : Int) : ∃ S : Nat, S < 3 ∧ (IntKind.u64.wrap size).tmod 3 = (S : Int) := by
  have u1 : ∀ x : Int, 0 ≤ IntKind.u64.wrap x := fun x => by unfold IntKind.wrap; simp [IntKind.bits, IntKind.signed]; omega
  obtain ⟨S, hS⟩ : ∃ S : Nat, IntKind.u64.wrap size % 3 = (S : Int) := Int.eq_ofNat_of_zero_le (by have := u1 size; omega)
  exact ⟨S, by omega, by rw [Int.tmod_eq_emod_of_nonneg (u1 size)]; exact hS⟩
/-- The list's whole numbers. -/
def wre (ps : Nat → Int) (np j : Nat) : Int := if 2 * j + 1 < np then (ps (2 * j)).tmod 1099511627776 else 0
def wim (ps : Nat → Int) (np j : Nat) : Int := if 2 * j + 1 < np then (ps (2 * j + 1)).tmod 1099511627776 else 0
/-- A list of whole numbers. -/
def FI (f : Nat → Int) (xs : List Value) (n : Nat) : Prop := ∀ j, j < n → xs[j]? = some (.int .i64 (f j))
theorem two_rows (w : World) (n : Nat) (hn : n ≤ 4) :
    ((w.alloc (.cells (madeCells #[.int .i64 0] n) 2)).alloc (.cells (madeCells #[.int .i64 0] n) 2)).ownsRow w.heap.size 2 1 (.slice (some ⟨w.heap.size, 0, none⟩) n n) n (List.replicate n (.int .i64 0)) ∧
    ((w.alloc (.cells (madeCells #[.int .i64 0] n) 2)).alloc (.cells (madeCells #[.int .i64 0] n) 2)).ownsRow w.heap.size 2 1 (.slice (some ⟨w.heap.size + 1, 0, none⟩) n n) n (List.replicate n (.int .i64 0)) ∧
    Kp w ((w.alloc (.cells (madeCells #[.int .i64 0] n) 2)).alloc (.cells (madeCells #[.int .i64 0] n) 2)) := by
  have h1 := World.ownsRow_lit (base := w.heap.size) (e := 2) (size := 1) w (madeCells #[.int .i64 0] n) n (Nat.le_refl _) (by unfold maxLen; omega) (by rw [size_madeCells]; omega)
  have h2 := World.ownsRow_lit (base := w.heap.size) (e := 2) (size := 1) (w.alloc (.cells (madeCells #[.int .i64 0] n) 2)) (madeCells #[.int .i64 0] n) n (by simp) (by unfold maxLen; omega) (by rw [size_madeCells]; omega)
  rw [toList_madeCells_one] at h1 h2
  refine ⟨h1.alloc _, ?_, ((Kp.refl w).alloc _).alloc _⟩
  have e : (w.alloc (.cells (madeCells #[.int .i64 0] n) 2)).heap.size = w.heap.size + 1 := by simp
  rw [e] at h2
  exact h2
theorem FI.put {f f' : Nat → Int} {xs : List Value} {n : Nat} (h : FI f xs n) (k : Nat) (v : Int) (hk : k < xs.length) (hv : v = f' k) (he : ∀ j, j < n → j ≠ k → f' j = f j) : FI f' (xs.set k (.int .i64 v)) n := fun j hj => by
  by_cases e : j = k
  · subst e; rw [List.getElem?_set_self hk, hv]
  · rw [List.getElem?_set_ne (by omega), h j hj, he j hj e]
theorem two_stores {w wa : World} {bx : Nat} {gr gi n k m : Nat} {xr xi xs : List Value} {v : Value} (hor : w.ownsRow wa.heap.size 2 1 (.slice (some ⟨gr, 0, none⟩) n n) n xr) (hoi : w.ownsRow wa.heap.size 2 1 (.slice (some ⟨gi, 0, none⟩) n n) n xi)
    (hox : w.ownsRow bx 27 1 v m xs) (hne : gr ≠ gi) (h1 : gr < bx) (h2 : gi < bx) (hk : Kp wa w) (a b : Value) :
    ((w.setCell ⟨gr, k, none⟩ a).setCell ⟨gi, k, none⟩ b).drew.ownsRow wa.heap.size 2 1 (.slice (some ⟨gr, 0, none⟩) n n) n (xr.set k a) ∧ ((w.setCell ⟨gr, k, none⟩ a).setCell ⟨gi, k, none⟩ b).drew.ownsRow wa.heap.size 2 1 (.slice (some ⟨gi, 0, none⟩) n n) n (xi.set k b) ∧
    ((w.setCell ⟨gr, k, none⟩ a).setCell ⟨gi, k, none⟩ b).drew.ownsRow bx 27 1 v m xs ∧ Kp wa ((w.setCell ⟨gr, k, none⟩ a).setCell ⟨gi, k, none⟩ b).drew ∧ w.heap.size ≤ ((w.setCell ⟨gr, k, none⟩ a).setCell ⟨gi, k, none⟩ b).drew.heap.size := by
  obtain ⟨r1, s1⟩ := hor.stored k a
  have i1 := hoi.kept s1 (.inr (by intro e; cases e; exact hne rfl))
  have x1 := hox.kept s1 (.inr (fun e => by have := (hox.lt gr e).1; omega))
  obtain ⟨i2, s2⟩ := i1.stored k b
  have r2 := r1.kept s2 (.inr (by intro e; cases e; exact hne rfl))
  have x2 := x1.kept s2 (.inr (fun e => by have := (x1.lt gi e).1; omega))
  exact ⟨r2, i2, x2, ((hk.setCell (hor.lt gr rfl).1 _).setCell (hoi.lt gi rfl).1 _).drew, by simp⟩
/-- The list of floats. -/
def wxf (ps : Nat → Int) (np j : Nat) : Nat × Nat := (ofInt (wre ps np j), ofInt (wim ps np j))
theorem whole_le (ps : Nat → Int) (np j : Nat) : (wre ps np j).natAbs ≤ 1099511627776 ∧ (wim ps np j).natAbs ≤ 1099511627776 := by
  unfold wre wim
  have h1 := Int.tmod_lt_of_pos (ps (2 * j)) (show (0 : Int) < 1099511627776 by omega)
  have h2 := Int.lt_tmod_of_pos (ps (2 * j)) (show (0 : Int) < 1099511627776 by omega)
  have h3 := Int.tmod_lt_of_pos (ps (2 * j + 1)) (show (0 : Int) < 1099511627776 by omega)
  have h4 := Int.lt_tmod_of_pos (ps (2 * j + 1)) (show (0 : Int) < 1099511627776 by omega)
  generalize (ps (2 * j)).tmod 1099511627776 = x at *
  generalize (ps (2 * j + 1)).tmod 1099511627776 = y at *
  split <;> omega
theorem whole_ic (ps : Nat → Int) (np j : Nat) : IC (wxf ps np j) (wre ps np j) (wim ps np j) := by
  obtain ⟨h1, h2⟩ := whole_le ps np j
  have h53 : (2 : Nat) ^ 53 = 9007199254740992 := by decide
  exact ⟨iv_ofInt _ (by omega), iv_ofInt _ (by omega)⟩
theorem whole_fwd (e n k : Nat) (he : e < 3) (hn : 2 ^ e = n) (hk : k < n) (ps : Nat → Int) (np : Nat) : IC (dft (wxf ps np) n k) (sumR (2 ^ (2 - e)) k (wre ps np) (wim ps np) n) (sumI (2 ^ (2 - e)) k (wre ps np) (wim ps np) n) := by
  subst hn
  exact ic_dft e k he hk _ _ _ 1099511627776 (by decide) (fun j _ => whole_ic ps np j) (fun j _ => whole_le ps np j)
theorem whole_back (e n j : Nat) (he : e < 3) (hn : 2 ^ e = n) (hj : j < n) (ps : Nat → Int) (np : Nat) : IC (idft (fun k => dft (wxf ps np) n k) n j) (wre ps np j) (wim ps np j) := by
  subst hn
  exact ic_idft e j he hj _ _ _ 1099511627776 (by decide) (fun j _ => whole_ic ps np j) (fun j _ => whole_le ps np j)
theorem whole_sum (e n k : Nat) (he : e < 3) (hn : 2 ^ e = n) (ps : Nat → Int) (np : Nat) : (sumR (2 ^ (2 - e)) k (wre ps np) (wim ps np) n).natAbs < 2 ^ 53 ∧ (sumI (2 ^ (2 - e)) k (wre ps np) (wim ps np) n).natAbs < 2 ^ 53 := by
  obtain ⟨h1, h2⟩ := sum_le (2 ^ (2 - e)) k (wre ps np) (wim ps np) 1099511627776 n fun i _ => whole_le ps np i
  have h53 : (2 : Nat) ^ 53 = 9007199254740992 := by decide
  have h4 : n ≤ 4 := by rw [← hn]; rcases (show e = 0 ∨ e = 1 ∨ e = 2 by omega) with rfl | rfl | rfl <;> decide
  have := Nat.mul_le_mul_right 1099511627776 h4
  omega
theorem bne_of_eq {a : Option Ordering} (h : (a == some .eq) = true) : (a != some .eq) = false := by unfold bne; rw [h]; rfl
set_option maxRecDepth 100000 in
set_option maxHeartbeats 8000000 in
theorem whole_ok (op : Option Addr) (np cp : Nat) (ps : Nat → Int) (size : Int) (w : World) (hnp : np ≤ 17592186043904) (hb : NumS .i64 w op np ps) (hpw : ∀ j, j < np → -9223372036854775808 ≤ ps j ∧ ps j ≤ 9223372036854775807) :
    Calls Tryd.prog 3 #[.slice op np cp, .int .i64 size] w fun e w' => e = .returned (.bool true) ∧ Kp w w' := by
  obtain ⟨i0, hi, hz0, hz1, hz2⟩ := info_parts info_c
  have HP := Lib.hid hb
  have HW := Lib.hid hpw
  clear hb hpw
  obtain ⟨S, hS, eS⟩ := whole_num size
  have HS := Lib.hid eS
  clear eS
  go_enter Tryd.func3, Tryd.ntmps3
  go_upto_region 3 with (go_at_call 8; (refine (dlives_any _).mono ?_); rintro e w0 ⟨rfl, hk0⟩)
  have eS := HS.out
  go_cut [5] (fun x wx => (∃ e : Nat, e < 3 ∧ x = .int .i64 ((2 ^ e : Nat) : Int)) ∧ Kp w wx)
  case first =>
    rcases (show S = 0 ∨ S = 1 ∨ S = 2 by omega) with rfl | rfl | rfl
    all_goals
      go_wp2_with fail
      go_meet
      case rel => first | exact ⟨⟨0, by decide, rfl⟩, hk0.alloc _⟩ | exact ⟨⟨1, by decide, rfl⟩, hk0.alloc _⟩ | exact ⟨⟨2, by decide, rfl⟩, hk0.alloc _⟩
  case rest =>
    obtain ⟨⟨e, he, rfl⟩, hk1⟩ := hcut
    obtain ⟨wa, rfl⟩ : ∃ wa : World, wa = wc := ⟨_, rfl⟩
    clear hk0 eS HS hS S w0
    obtain ⟨n, hn⟩ : ∃ n, 2 ^ e = n := ⟨_, rfl⟩
    have hn1 : 1 ≤ n := by rw [← hn]; exact Nat.two_pow_pos e
    have hn4 : n ≤ 4 := by rw [← hn]; rcases (show e = 0 ∨ e = 1 ∨ e = 2 by omega) with rfl | rfl | rfl <;> decide
    rw [hn]
    have HE := Lib.hid (And.intro he hn)
    clear he hn
    go_upto_region 4 with fail
    have hmk := fun w => run_make_row' (P := Tryd.prog) 22 2 (.int .i64 0) 8 Tryd.underlying22 info_l rfl .i64 .i64 n (by omega) (by omega) w
    go_cut [6, 7] (fun x y wx => (∃ gr gi, x = .slice (some ⟨gr, 0, none⟩) n n ∧ y = .slice (some ⟨gi, 0, none⟩) n n ∧ gr ≠ gi ∧ wx.ownsRow wa.heap.size 2 1 (.slice (some ⟨gr, 0, none⟩) n n) n (List.replicate n (.int .i64 0)) ∧ wx.ownsRow wa.heap.size 2 1 (.slice (some ⟨gi, 0, none⟩) n n) n (List.replicate n (.int .i64 0))) ∧ Kp wa wx)
    case first =>
      have hW := two_rows wa.drew n hn4
      go_region
      all_goals
        go_wp2_with fail
        go_meet
      case rel => exact ⟨⟨_, _, rfl, rfl, Nat.ne_of_lt (Nat.lt_succ_self _), hW.1, hW.2.1⟩, (Kp.refl wa).drew.trans hW.2.2⟩
      case rel => exact ⟨⟨_, _, rfl, rfl, Nat.ne_of_gt (Nat.lt_succ_self _), hW.2.1, hW.1⟩, (Kp.refl wa).drew.trans hW.2.2⟩
    case rest =>
      obtain ⟨⟨gr, gi, rfl, rfl, hne, hor, hoi⟩, hk2⟩ := hcut
      obtain ⟨wb, rfl⟩ : ∃ wb : World, wb = wc := ⟨_, rfl⟩
      have hwab : wa.heap.size ≤ wb.heap.size := hk2.size
      have hgr := (hor.lt gr rfl).2
      have hgi := (hoi.lt gi rfl).2
      have hox := owns_empty wb
      have hkx : Kp wa (wb.alloc (.cells #[] 27)) := hk2.alloc _
      clear hmk
      go_wp2_with fail
      go_loopw [8, 9] (fun v b wr => ∃ (k : Nat) (xr xi xs : List Value), k ≤ n ∧ b = .int .i64 k ∧ wr.ownsRow wa.heap.size 2 1 (.slice (some ⟨gr, 0, none⟩) n n) n xr ∧ wr.ownsRow wa.heap.size 2 1 (.slice (some ⟨gi, 0, none⟩) n n) n xi ∧ wr.ownsRow wb.heap.size 27 1 v k xs ∧
        Hid (FI (fun j => if j < k then wre ps np j else 0) xr n ∧ FI (fun j => if j < k then wim ps np j else 0) xi n ∧ PartC (wxf ps np) xs k) ∧ Kp wa wr ∧ wb.heap.size ≤ wr.heap.size) (fun _ b _ => n - (intOf b).toNat)
      case atStart => exact ⟨0, _, _, [], by omega, rfl, hor.alloc _, hoi.alloc _, hox, Lib.hid ⟨fun j hj => by simp [hj], fun j hj => by simp [hj], fun j hj => absurd hj (by omega)⟩, hkx, by simp⟩
      case round =>
        clear hor hoi hox hkx hk2
        obtain ⟨k, xr, xi, xs, hk, rfl, hor, hoi, hox, HF, hkr, hwb⟩ := hrel
        by_cases hlt : k < n
        · have r1 : wr.cell? ⟨gr, k, none⟩ = some (.int .i64 0) := by rw [hor.cellAt k (by omega), HF.out.1 k hlt]; dsimp only; rw [if_neg (by omega)]
          have r2 : wr.cell? ⟨gi, k, none⟩ = some (.int .i64 0) := by rw [hoi.cellAt k (by omega), HF.out.2.1 k hlt]; dsimp only; rw [if_neg (by omega)]
          have fr1 := hor.frozenAt k
          have fr2 := hoi.frozenAt k
          by_cases hc : 2 * k + 1 < np
          case' pos =>
            obtain ⟨g, off, rfl, hg, hcells⟩ := HP.out (by omega)
            have q1 := (hk1.trans hkr).later (hcells (2 * k) (by omega))
            have q2 := (hk1.trans hkr).later (hcells (2 * k + 1) hc)
            clear hcells
            have hi1 : ((2 : Int) * (k : Int) + 1).toNat = 2 * k + 1 := by omega
            have hi2 : ((2 : Int) * (k : Int)).toNat = 2 * k := by omega
            have hw1 : IntKind.i64.wrap (2 * (k : Int)) = 2 * (k : Int) := IntWalk.i64_in _ (by omega)
            have hw2 : IntKind.i64.wrap (2 * (k : Int) + 1) = 2 * (k : Int) + 1 := IntWalk.i64_in _ (by omega)
            obtain ⟨a, ha⟩ : ∃ a, ps (2 * k) = a := ⟨_, rfl⟩
            obtain ⟨b, hb⟩ : ∃ b, ps (2 * k + 1) = b := ⟨_, rfl⟩
            have hX : a.tmod 1099511627776 = wre ps np k := by unfold wre; rw [if_pos hc, ha]
            have hY : b.tmod 1099511627776 = wim ps np k := by unfold wim; rw [if_pos hc, hb]
            rw [ha] at q1
            rw [hb] at q2
            have HXY := Lib.hid (And.intro hX hY)
            clear ha hb hX hY
            go_upto_region 10 with fail
            go_region
            rw [HXY.out.1, HXY.out.2]
            obtain ⟨X, hX⟩ : ∃ X, wre ps np k = X := ⟨_, rfl⟩
            obtain ⟨Y, hY⟩ : ∃ Y, wim ps np k = Y := ⟨_, rfl⟩
            rw [hX, hY]
            obtain ⟨hor2, hoi2, hox2, hk3, hwb3⟩ := two_stores (k := k) hor hoi hox hne hgr hgi hkr (.int .i64 X) (.int .i64 Y)
            have HF2 : Hid (FI (fun j => if j < k + 1 then wre ps np j else 0) (xr.set k (.int .i64 X)) n ∧ FI (fun j => if j < k + 1 then wim ps np j else 0) (xi.set k (.int .i64 Y)) n) := Lib.hid ⟨HF.out.1.put k X (by have := hor.1; omega) (by (try dsimp only); rw [if_pos (by omega)]; exact hX.symm) (fun j _ hj => by (try dsimp only); by_cases c : j < k; (rw [if_pos c, if_pos (by omega)]); (rw [if_neg c, if_neg (by omega)])), HF.out.2.1.put k Y (by have := hoi.1; omega) (by (try dsimp only); rw [if_pos (by omega)]; exact hY.symm) (fun j _ hj => by (try dsimp only); by_cases c : j < k; (rw [if_pos c, if_pos (by omega)]); (rw [if_neg c, if_neg (by omega)]))⟩
            have HXX := Lib.hid (And.intro hX hY)
            have hwb2 := Nat.le_trans hwb hwb3
            clear hwb3
            clear hX hY hor hoi hox r1 r2 fr1 fr2 q1 q2 hi1 hi2 hw1 hw2 HXY
            generalize ((wr.setCell ⟨gr, k, none⟩ (.int .i64 X)).setCell ⟨gi, k, none⟩ (.int .i64 Y)).drew = w2 at *
            generalize xr.set k (.int .i64 X) = xr2 at *
            generalize xi.set k (.int .i64 Y) = xi2 at *
          case' neg =>
            obtain ⟨X, hX⟩ : ∃ X, wre ps np k = X := ⟨_, rfl⟩
            obtain ⟨Y, hY⟩ : ∃ Y, wim ps np k = Y := ⟨_, rfl⟩
            have HF2 : Hid (FI (fun j => if j < k + 1 then wre ps np j else 0) xr n ∧ FI (fun j => if j < k + 1 then wim ps np j else 0) xi n) := Lib.hid ⟨fun j hj => by
              rw [HF.out.1 j hj]; dsimp only
              by_cases c : j < k
              · rw [if_pos c, if_pos (by omega)]
              · by_cases c2 : j = k
                · subst c2; rw [if_neg c, if_pos (by omega)]; unfold wre; rw [if_neg hc]
                · rw [if_neg c, if_neg (by omega)], fun j hj => by
              rw [HF.out.2.1 j hj]; dsimp only
              by_cases c : j < k
              · rw [if_pos c, if_pos (by omega)]
              · by_cases c2 : j = k
                · subst c2; rw [if_neg c, if_pos (by omega)]; unfold wim; rw [if_neg hc]
                · rw [if_neg c, if_neg (by omega)]⟩
            have HXX := Lib.hid (And.intro hX hY)
            obtain ⟨w2, rfl⟩ : ∃ w2 : World, w2 = wr := ⟨_, rfl⟩
            obtain ⟨xr2, rfl⟩ : ∃ xr2 : List Value, xr2 = xr := ⟨_, rfl⟩
            obtain ⟨xi2, rfl⟩ : ∃ xi2 : List Value, xi2 = xi := ⟨_, rfl⟩
            have hor2 := hor
            have hoi2 := hoi
            have hox2 := hox
            have hk3 := hkr
            have hwb2 := hwb
            clear hX hY hor hoi hox r1 r2 fr1 fr2 hkr
          all_goals
            have c1 : w2.cell? ⟨gr, k, none⟩ = some (.int .i64 X) := by rw [hor2.cellAt k (by omega), HF2.out.1 k hlt]; dsimp only; rw [if_pos (by omega), HXX.out.1]
            have c2 : w2.cell? ⟨gi, k, none⟩ = some (.int .i64 Y) := by rw [hoi2.cellAt k (by omega), HF2.out.2 k hlt]; dsimp only; rw [if_pos (by omega), HXX.out.2]
            have g1 := (hor2.lt gr rfl).2
            have g2 := (hoi2.lt gi rfl).2
            have HB : Hid (k + 1 ≤ 4 ∧ wb.heap.size ≤ w2.heap.size) := Lib.hid ⟨by omega, hwb2⟩
            have HNE : Hid (∀ b, u8.ownBlock = some b → b ≠ gr ∧ b ≠ gi) := Lib.hid fun b hb => by have := (hox2.lt b hb).1; omega
            have hlen := hox2.1
            go_wp2_with fail
            go_region_held3 (fun w' => w'.cell? ⟨gr, k, none⟩ = some (.int .i64 X) ∧ w'.cell? ⟨gi, k, none⟩ = some (.int .i64 Y)) (first | go_keep | (go_split_ands; refine ⟨?_, ?_⟩ <;> (rw [hgrow.cell_far _ (by simp; omega) (fun h => by first | exact (HNE.out _ h.symm).1 rfl | exact (HNE.out _ h.symm).2 rfl)]; assumption)))
              ((refine step_append_lies _ (by rfl) _ _ 26 (by rfl) wb.heap.size 27 i0 (.complex .f64 0 0) 1 16 Tryd.underlying26 hi hz0 hz1 hz2 rfl (by omega) _ k xs (by rfl) ((hox2.alloc _).drew) ⟨w2.heap.size, 0, none⟩ 1 1 [.complex .f64 (floatOfInt .f64 X) (floatOfInt .f64 Y)] (by rfl) (by rfl) (World.news_of_block (cs := #[.complex .f64 (floatOfInt .f64 X) (floatOfInt .f64 Y)]) (t := 27) (fr := (0, 0)) (heap_alloc_new w2 _)) (by simp [Value.oneCell']) (by decide) (by have := HB.out.1; unfold maxLen; exact Nat.le_trans this (by decide)) (Nat.le_trans (Nat.mul_le_mul_right 16 HB.out.1) (by decide)) (Nat.le_trans HB.out.2 (by simp)) (w2.heap.size + 1) (by simp) ?_; intro gg cap' w3 hown1 hgrow hat hlt'))
            have hk5 : Kp wa w3 := ((hk3.alloc _).drew).grown hgrow (fun j hj => by have := (hox2.lt j hj).1; omega)
            have hor3 := ((hor2.alloc (.cells #[.complex .f64 (floatOfInt .f64 X) (floatOfInt .f64 Y)] 27)).drew).kept hgrow (.inr (fun e => (HNE.out gr e.symm).1 rfl))
            have hoi3 := ((hoi2.alloc (.cells #[.complex .f64 (floatOfInt .f64 X) (floatOfInt .f64 Y)] 27)).drew).kept hgrow (.inr (fun e => (HNE.out gi e.symm).2 rfl))
            have hp5 := HF.out.2.2.snoc (c := floatOfInt .f64 X) (s := floatOfInt .f64 Y) (by omega) (by rw [cn_conv, ← HXX.out.1]; rfl) (by rw [cn_conv, ← HXX.out.2]; rfl)
            have hw5 : wb.heap.size ≤ w3.heap.size := by have := (hown1.lt gg rfl).1; omega
            have HF5 := Lib.hid (And.intro HF2.out.1 (And.intro HF2.out.2 hp5))
            clear hgrow hat hp5 hor2 hoi2 hox2 c1 c2 g1 g2
            go_wp2_with fail
            go_roundw
            case rel => exact ⟨k + 1, xr2, xi2, _, by omega, by go_num, hor3, hoi3, hown1, HF5, hk5, hw5⟩
            case measure => simp [intOf]; omega
        · obtain rfl : n = k := by omega
          have HRE : Hid (HasI wr gr n (wre ps np)) := Lib.hid fun j hj => by rw [hor.cellAt j (by omega), HF.out.1 j hj]; dsimp only; rw [if_pos hj]
          have HIM : Hid (HasI wr gi n (wim ps np)) := Lib.hid fun j hj => by rw [hoi.cellAt j (by omega), HF.out.2.1 j hj]; dsimp only; rw [if_pos hj]
          obtain ⟨gx, cx, rfl⟩ := owns_form hox (by omega)
          have HX : Hid (Has wr gx n (wxf ps np)) := Lib.hid (Has.own hox (Nat.le_refl _) HF.out.2.2)
          have hk3 := hk1.trans hkr
          clear hor hoi hox HF hkr hwb hlt hk hgr hgi hne hwab
          obtain ⟨wd, rfl⟩ : ∃ wd : World, wd = wr := ⟨_, rfl⟩
          go_wp2_with (go_at_call 9; (refine (Forward_any _ n _ (wxf ps np) _ hn1 (by omega) HX.out).mono ?_); rintro e' w4 ⟨gy, ys, rfl, hoy, hpy, hk4⟩)
          have HY : Hid (Has w4 gy n (fun j => dft (wxf ps np) n j)) := Lib.hid (Has.own hoy (Nat.le_refl _) hpy)
          have HX4 := Lib.hid (HX.out.kp hk4)
          have HRI := Lib.hid (And.intro (HRE.out.kp hk4) (HIM.out.kp hk4))
          have hk04 := hk3.trans hk4
          clear hoy hpy hk3 hk4 HX HRE HIM
          go_loopw [12, 13, 14] (fun b _ _ wr => ∃ k : Nat, k ≤ n ∧ b = .int .i64 k ∧ Kp w4 wr) (fun b _ _ _ => n - (intOf b).toNat)
          case atStart => exact ⟨0, by omega, rfl, Kp.refl _⟩
          case round =>
            obtain ⟨k, hk, rfl, hkr⟩ := hrel
            by_cases hlt : k < n
            · obtain ⟨c, s, q1, hc, hs⟩ := (HY.out.kp hkr) k hlt
              have hT := fun w' (h : Kp w4 w') => turned_any e k gr gi n (wre ps np) (wim ps np) w' HE.out.1 HE.out.2 hlt (HRI.out.1.kp h) (HRI.out.2.kp h) (fun j _ => whole_le ps np j)
              have t1 : (ord (cn c) (cn (floatOfInt .f64 (sumR (2 ^ (2 - e)) k (wre ps np) (wim ps np) n))) != some .eq) = false := bne_of_eq (by rw [cn_conv, hc]; exact iv_eq (whole_fwd e n k HE.out.1 HE.out.2 hlt ps np).1 (iv_ofInt _ (whole_sum e n k HE.out.1 HE.out.2 ps np).1))
              have t2 : (ord (cn s) (cn (floatOfInt .f64 (sumI (2 ^ (2 - e)) k (wre ps np) (wim ps np) n))) != some .eq) = false := bne_of_eq (by rw [cn_conv, hs]; exact iv_eq (whole_fwd e n k HE.out.1 HE.out.2 hlt ps np).2 (iv_ofInt _ (whole_sum e n k HE.out.1 HE.out.2 ps np).2))
              generalize sumR (2 ^ (2 - e)) k (wre ps np) (wim ps np) n = R at *
              generalize sumI (2 ^ (2 - e)) k (wre ps np) (wim ps np) n = I at *
              have HT := Lib.hid hT
              clear hT hc hs
              go_wp2_with (go_at_call 10; (with_reducible refine (HT.out _ hkr).mono ?_); rintro e' w5 ⟨rfl, hk5⟩; have q1' := hk5.later q1)
              go_roundw
              case rel => exact ⟨k + 1, by omega, by go_num, hkr.trans hk5⟩
              case measure => simp [intOf]; omega
            · obtain ⟨we, rfl⟩ : ∃ we : World, we = wr := ⟨_, rfl⟩
              have HY5 := Lib.hid (HY.out.kp hkr)
              go_wp2_with (go_at_call 11; (refine (Inverse_any _ n _ (fun j => dft (wxf ps np) n j) _ hn1 (by omega) HY5.out).mono ?_); rintro e' w6 ⟨gb, bs, rfl, hob, hpb, hk6⟩)
              have HBK : Hid (Has w6 gb n (fun j => idft (fun j => dft (wxf ps np) n j) n j)) := Lib.hid (Has.own hob (Nat.le_refl _) hpb)
              have HX6 := Lib.hid ((HX4.out.kp hkr).kp hk6)
              have hk06 := (hk04.trans hkr).trans hk6
              clear hob hpb hk6 hkr hk04
              go_loopw [16, 132] (fun _ b wr => ∃ j : Nat, j ≤ n ∧ b = .int .i64 j ∧ Kp w6 wr) (fun _ b _ => n - (intOf b).toNat)
              case atStart => exact ⟨0, by omega, rfl, Kp.refl _⟩
              case round =>
                obtain ⟨j, hj, rfl, hkr⟩ := hrel
                by_cases hlt : j < n
                · obtain ⟨c1, s1, q1, hc1, hs1⟩ := (HBK.out.kp hkr) j hlt
                  obtain ⟨c2, s2, q2, hc2, hs2⟩ := (HX6.out.kp hkr) j hlt
                  have hb := whole_back e n j HE.out.1 HE.out.2 hlt ps np
                  have hx := whole_ic ps np j
                  have t1 : (ord (cn c1) (cn c2) == some .eq) = true := by rw [hc1, hc2]; exact iv_eq hb.1 hx.1
                  have t2 : (ord (cn s1) (cn s2) == some .eq) = true := by rw [hs1, hs2]; exact iv_eq hb.2 hx.2
                  clear hc1 hs1 hc2 hs2 hb hx
                  go_wp2_with fail
                  go_quiet (fail)
                  go_wp2_with fail
                  go_roundw
                  case rel => exact ⟨j + 1, by omega, by go_num, hkr.drewN nq⟩
                  case measure => simp [intOf]; omega
                · go_wp2_with fail
                  go_ret
                  exact ⟨rfl, hk06.trans hkr⟩
theorem walk_DirectWhole (w : World) (o : Option Addr) (n c : Nat) (ps : Nat → Int) (hb : NumS .i64 w o n ps) (hw : ∀ j, j < n → (Lit.int .i64 (ps j)).wf = true) (hz : n * 8 ≤ 140737488351232)
    (size : Int) (_ : (Lit.int .i64 size).wf = true) :
    Calls Tryd.prog 3 #[.slice o n c, .int .i64 size] w fun e w' => e = .returned (.bool true) ∧ Kp w w' :=
  whole_ok o n c ps size w (by omega) hb fun j hj => by
    have h := hw j hj
    simp [Lit.wf, IntKind.min, IntKind.max, IntKind.signed, IntKind.bits] at h
    omega
end Go.Proofs.YtmadbdecbkmjkaaDoor
