/-
  The reference's Check, Usual, both; Same, samePolicy.
-/
import Derived.Test.YtgjlldapnodfbaaDoorORefA
namespace Go.Ord
def lastOf : Int → List Int → Int
  | last, [] => last
  | _, x :: l => lastOf x l
theorem lastOf_snoc : ∀ (l : List Int) (a x : Int), lastOf a (l ++ [x]) = x
  | [], _, _ => rfl
  | y :: l, _, x => lastOf_snoc l y x
theorem rises_snoc : ∀ (l : List Int) (last r : Int), rises last (l ++ [r]) = (rises last l && decide (lastOf last l < r ∧ r ≤ 5))
  | [], last, r => by
    show (decide (last < r ∧ r ≤ 5) && true) = (true && decide (last < r ∧ r ≤ 5))
    rw [Bool.and_true, Bool.true_and]
  | x :: l, last, r => by
    rw [List.cons_append]
    unfold rises
    rw [rises_snoc l x r, Bool.and_assoc]
    rfl
theorem rises_last : ∀ (l : List Int) (last : Int), rises last l = true → 1 ≤ last → 1 ≤ lastOf last l ∧ (l ≠ [] → 2 ≤ lastOf last l)
  | [], last, _, h => ⟨h, fun h => absurd rfl h⟩
  | x :: l, last, h, h1 => by
    unfold rises at h
    rw [Bool.and_eq_true, decide_eq_true_eq] at h
    have := rises_last l x h.2 (by omega)
    refine ⟨this.1, fun _ => ?_⟩
    cases l with
    | nil => show 2 ≤ x; omega
    | cons y l => exact this.2 (by simp)
/-- The first i butterflies rise, and the rest of the policy is good. -/
def okTo (b0 : Bool) (l : List Int) (i : Nat) : Bool := b0 && rises 1 (l.take i)
theorem okTo_step {b0 : Bool} {l : List Int} {i : Nat} (hi : i < l.length) : okTo b0 l (i + 1) = (okTo b0 l i && (decide (2 ≤ l.getD i 0) && (decide (l.getD i 0 ≤ 5) && (decide (i = 0) || decide (l.getD (i - 1) 0 < l.getD i 0))))) := by
  unfold okTo
  have eg : l.getD i 0 = l[i] := by simp [List.getD_eq_getElem?_getD, List.getElem?_eq_getElem hi]
  rw [List.take_succ_eq_append_getElem hi, rises_snoc, eg, Bool.and_assoc]
  cases hr : rises 1 (l.take i) with
  | false => simp
  | true =>
    have h1 := rises_last _ _ hr (Int.le_refl 1)
    cases i with
    | zero =>
      rw [Bool.eq_iff_iff]
      simp [lastOf]
      omega
    | succ i =>
      have hi' : i < l.length := by omega
      have eg2 : l.getD i 0 = l[i] := by simp [List.getD_eq_getElem?_getD, List.getElem?_eq_getElem hi']
      have el : lastOf 1 (l.take (i + 1)) = l[i] := by
        rw [List.take_succ_eq_append_getElem hi', lastOf_snoc]
      have hne : l.take (i + 1) ≠ [] := by intro e; have := congrArg List.length e; simp [List.length_take] at this; rw [this] at hi'; simp at hi'
      have h2 := h1.2 hne
      rw [el] at h2 ⊢
      rw [Nat.add_sub_cancel, eg2, Bool.eq_iff_iff]
      simp
      omega
theorem ok_all (p : Pol) : p.ok = okTo (decide (2 ≤ p.D ∧ p.D ≤ 64 ∧ 2 ≤ p.P ∧ p.P ≤ p.D)) p.fl p.fl.length := by
  unfold Pol.ok okTo
  rw [List.take_length]
end Go.Ord
namespace Go.Proofs.YtgjlldapnodfbaaDoor
open Go Go.RowKit Go.Fl Go.Ord Go.Pr

set_option maxRecDepth 100000 in
set_option maxHeartbeats 2000000 in
theorem rPCheck_any (p : Pol) (vf : Value) (w : World) (hl : p.fl.length ≤ 17592186044416) (hv : FlIn w vf p.fl) :
    Calls Tryd.prog 15 #[.agg #[.int .i64 p.D, vf, .int .i64 p.P]] w fun e w' => e = .returned (.int .i64 (if p.ok = true then 0 else 5)) ∧ Kp w w' := by
  obtain ⟨o, c, rfl, hcell⟩ := hv
  have HCl := Lib.hid hcell
  have HOk := Lib.hid (ok_all p)
  obtain ⟨D, hD⟩ : ∃ D, p.D = D := ⟨_, rfl⟩
  obtain ⟨P, hP⟩ : ∃ P, p.P = P := ⟨_, rfl⟩
  obtain ⟨ok, hok⟩ : ∃ ok, p.ok = ok := ⟨_, rfl⟩
  rw [hok, hD, hP] at HOk
  rw [hok, hD, hP]
  clear hD hP hok hcell
  generalize p.fl = l at *
  obtain ⟨n, hn⟩ : ∃ n, l.length = n := ⟨_, rfl⟩
  have HN := Lib.hid hn
  rw [hn] at hl HOk ⊢
  clear hn
  have k1 := (Kp.refl w).alloc (.cells #[.int .i64 D, .slice o n c, .int .i64 P] 24)
  have hA := heap_alloc_new w (.cells #[.int .i64 D, .slice o n c, .int .i64 P] 24)
  obtain ⟨rv, hrv⟩ : ∃ rv, (if ok = true then (0 : Int) else 5) = rv := ⟨_, rfl⟩
  have HRV := Lib.hid hrv
  rw [hrv]
  clear hrv
  obtain ⟨b0, hb0⟩ : ∃ b0, decide (2 ≤ D ∧ D ≤ 64 ∧ 2 ≤ P ∧ P ≤ D) = b0 := ⟨_, rfl⟩
  have HB0 := Lib.hid hb0
  rw [hb0] at HOk
  clear hb0
  go_enter Tryd.func15, Tryd.ntmps15
  go_upto_region 1 with fail
  obtain ⟨⟨p0, p1, p2⟩, _⟩ := row3_facts hA
  generalize w.alloc (.cells #[.int .i64 D, .slice o n c, .int .i64 P] 24) = w1 at *
  go_cut [3] from 6 to 25 (fun x wx => x = .bool b0 ∧ wx = w1)
  case first =>
    go_wp2_with fail
    all_goals
      go_meet
      refine ⟨?_, rfl⟩
      rw [← HB0.out]
      congr 1
      first | exact (decide_eq_true (by omega)).symm | exact (decide_eq_false (by omega)).symm | exact decide_eq_decide.2 (by omega)
  case rest =>
    obtain ⟨rfl, rfl⟩ := hcut
    go_wp2_with fail
    go_loopw [3, 4, 5] (fun x y _ wr => ∃ (i : Nat) (bi : Bool), i ≤ n ∧ y = .int .i64 i ∧ x = .bool bi ∧ Hid (bi = okTo b0 l i) ∧ wr = wc) (fun _ y _ _ => n - (intOf y).toNat)
    case atStart => exact ⟨0, b0, by omega, rfl, rfl, Lib.hid (by unfold okTo; simp [rises]), rfl⟩
    case round =>
      obtain ⟨i, bi, hi, rfl, rfl, HS, rfl⟩ := hrel
      by_cases hlt : i < n
      · have hil : i < l.length := by rw [HN.out]; exact hlt
        obtain ⟨g, off, rfl, hg, hcell⟩ := HCl.out (by omega)
        have q := k1.later (hcell i hil)
        have HST := okTo_step (b0 := b0) hil
        obtain ⟨x, hx⟩ : ∃ x, l.getD i 0 = x := ⟨_, rfl⟩
        rw [hx] at q HST
        rw [← HS.out] at HST
        cases bi with
        | false =>
          have HN2 : Hid (false = okTo b0 l (i + 1)) := Lib.hid (by rw [HST, Bool.false_and])
          clear HST hcell hx
          go_wp2_with fail
          go_roundw
          case rel => exact ⟨i + 1, false, by omega, by go_num, rfl, HN2, by first | rfl | trivial⟩
          case measure => simp [intOf]; omega
        | true =>
          rw [Bool.true_and] at HST
          by_cases c1 : 2 ≤ x
          case neg =>
            have d1 : decide (2 ≤ x) = false := by simpa using c1
            have HN2 : Hid (false = okTo b0 l (i + 1)) := Lib.hid (by rw [HST, d1, Bool.false_and])
            clear HST hcell hx
            go_wp2_with fail
            go_roundw
            case rel => exact ⟨i + 1, false, by omega, by go_num, rfl, HN2, by first | rfl | trivial⟩
            case measure => simp [intOf]; omega
          have d1 : decide (2 ≤ x) = true := by simpa using c1
          rw [d1, Bool.true_and] at HST
          by_cases c2 : x ≤ 5
          case neg =>
            have d2 : decide (x ≤ 5) = false := by simpa using c2
            have HN2 : Hid (false = okTo b0 l (i + 1)) := Lib.hid (by rw [HST, d2, Bool.false_and])
            clear HST hcell hx
            go_wp2_with fail
            go_roundw
            case rel => exact ⟨i + 1, false, by omega, by go_num, rfl, HN2, by first | rfl | trivial⟩
            case measure => simp [intOf]; omega
          have d2 : decide (x ≤ 5) = true := by simpa using c2
          rw [d2, Bool.true_and] at HST
          by_cases c0 : i = 0
          case pos =>
            have e0 : ((i : Int) == 0) = true := by simp; omega
            have HN2 : Hid (true = okTo b0 l (i + 1)) := Lib.hid (by rw [HST, decide_eq_true c0, Bool.true_or])
            clear HST hcell hx c0
            go_wp2_with fail
            go_roundw
            case rel => exact ⟨i + 1, true, by omega, by go_num, rfl, HN2, by first | rfl | trivial⟩
            case measure => simp [intOf]; omega
          case neg =>
            have e0 : ((i : Int) == 0) = false := by simp; omega
            have q2 := k1.later (hcell (i - 1) (by omega))
            obtain ⟨j, hj⟩ : ∃ j, i - 1 = j := ⟨_, rfl⟩
            have ei : (i : Int) - 1 = (j : Int) := by omega
            rw [hj] at q2 HST
            obtain ⟨y, hy⟩ : ∃ y, l.getD j 0 = y := ⟨_, rfl⟩
            rw [hy] at HST q2
            have hj2 : j < i := by omega
            have HN2 : Hid (decide (y < x) = okTo b0 l (i + 1)) := Lib.hid (by rw [HST, decide_eq_false c0, Bool.false_or])
            clear HST hcell hx hy hj c0
            by_cases c3 : y < x
            · have d3 : decide (y < x) = true := by simpa using c3
              rw [d3] at HN2
              go_wp2_with fail
              go_roundw
              case rel => exact ⟨i + 1, true, by omega, by go_num, rfl, HN2, by first | rfl | trivial⟩
              case measure => simp [intOf]; omega
            · have d3 : decide (y < x) = false := by simpa using c3
              rw [d3] at HN2
              go_wp2_with fail
              go_roundw
              case rel => exact ⟨i + 1, false, by omega, by go_num, rfl, HN2, by first | rfl | trivial⟩
              case measure => simp [intOf]; omega
      · obtain rfl : n = i := by omega
        have HE : Hid (bi = ok) := Lib.hid (by rw [HS.out, HOk.out])
        cases bi with
        | true =>
          go_wp2_with fail
          go_ret
          exact ⟨by rw [← HRV.out, ← HE.out]; rfl, k1⟩
        | false =>
          go_wp2_with fail
          go_ret
          exact ⟨by rw [← HRV.out, ← HE.out]; rfl, k1⟩
end Go.Proofs.YtgjlldapnodfbaaDoor
