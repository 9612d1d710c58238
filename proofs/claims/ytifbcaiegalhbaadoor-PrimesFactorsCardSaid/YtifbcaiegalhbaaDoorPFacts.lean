/-
  The walk of PrimesFactors: factors are primes with the product n; divisors rise, come in pairs, are as many as the factors say.
-/
import Derived.Test.YtifbcaiegalhbaaDoorPModulo
import Derived.Test.YtifbcaiegalhbaaDoorPGone
import Derived.Test.YtifbcaiegalhbaaDoorPSym
namespace Go.Proofs.YtifbcaiegalhbaaDoor
open Go Go.RowKit Go.Fl Go.Pr

theorem factsI_bad {n : Int} (h : n < 1 ∨ 4294967296 < n) : factsI n = [] := by
  unfold factsI
  split
  · rfl
  · exact facts_small (by omega)
set_option maxRecDepth 100000 in
set_option maxHeartbeats 2000000 in
theorem pfactors_bad (n : Int) (E : Nat → Addr) (w : World) (hE : Ers w E) (h : n < 1 ∨ 4294967296 < n) :
    Calls Tryd.prog 9 #[.int .i64 n] w fun e w' => e = .returned (.bool true) ∧ Kp w w' := by
  have F1 : Hid (∀ w', Calls Tryd.prog 24 #[.int .i64 n] w' fun e w'' => e = .returned (.bool false) ∧ w' = w'') := Lib.hid fun w' => by have := Prime_any n w'; rw [primeB_out (by omega)] at this; exact this
  have F2 : Hid (∀ w', Calls Tryd.prog 26 #[.int .i64 n] w' fun e w'' => ∃ o c, e = .returned (.slice o 0 c) ∧ Kp w' w'') := Lib.hid fun w' => by
    have := Factors_any n w'
    rw [factsI_bad h] at this
    refine this.mono ?_
    rintro e w'' ⟨v, rfl, hI, hk⟩
    obtain ⟨o, c, rfl⟩ := hI.form
    exact ⟨o, c, rfl, hk⟩
  have F3 : Hid (∀ w', Calls Tryd.prog 29 #[.int .i64 n] w' fun e w'' => ∃ o c, e = .returned (.tuple #[.slice o 0 c, .bool true]) ∧ Kp w' w'') := Lib.hid fun w' => by
    have := gone_any n w'
    rw [divsI_out h] at this
    refine this.mono ?_
    rintro e w'' ⟨v, rfl, hI, hk⟩
    obtain ⟨o, c, rfl⟩ := hI.form
    exact ⟨o, c, rfl, hk⟩
  have HE := Lib.hid hE
  have key : decide (n < 1) = true ∨ (decide (n < 1) = false ∧ decide (4294967296 < n) = true) := by simp; omega
  clear hE h
  rcases key with d1 | ⟨d1, d2⟩
  all_goals
    go_enter Tryd.func9, Tryd.ntmps9
    go_wp2_with (first
      | (go_at_call 11; (with_reducible refine (fixed_any E _ HE.out).mono ?_); rintro e w0 ⟨rfl, hk0⟩)
      | (go_at_call 26; (with_reducible refine (F2.out _).mono ?_); rintro e w1 ⟨o1, c1, rfl, hk1⟩)
      | (go_at_call 29; (with_reducible refine (F3.out _).mono ?_); rintro e w2 ⟨o2, c2, rfl, hk2⟩)
      | (go_at_call 24; (with_reducible refine (F1.out _).mono ?_); rintro e w3 ⟨rfl, rfl⟩))
    go_ret
    exact ⟨rfl, (hk0.trans hk1).trans hk2⟩
set_option maxRecDepth 100000 in
set_option maxHeartbeats 4000000 in
theorem pfactors_ok (n : Nat) (E : Nat → Addr) (w : World) (hE : Ers w E) (h1 : 1 ≤ n) (h2 : n ≤ 4294967296) :
    Calls Tryd.prog 9 #[.int .i64 n] w fun e w' => e = .returned (.bool true) ∧ Kp w w' := by
  obtain ⟨L, hL⟩ : ∃ L, facts n = L := ⟨_, rfl⟩
  obtain ⟨D, hD⟩ : ∃ D, divs n = D := ⟨_, rfl⟩
  obtain ⟨pb, hpb⟩ : ∃ pb, primeB n = pb := ⟨_, rfl⟩
  have hpb2 : ((L.length : Int) == 1) = pb := by
    have h3 := facts_one n
    rw [hL] at h3
    rw [← hpb, Bool.eq_iff_iff]
    unfold primeB
    rw [decide_eq_true_iff, Int.toNat_natCast, ← h3, beq_iff_eq]
    constructor
    · intro h
      have h4 : L.length = 1 := by omega
      have := (h3.1 h4).1
      exact ⟨by omega, by omega, h4⟩
    · intro h; omega
  have F1 : Hid (∀ w', Calls Tryd.prog 24 #[.int .i64 n] w' fun e w'' => e = .returned (.bool pb) ∧ w' = w'') := Lib.hid fun w' => by have := Prime_any n w'; rw [hpb] at this; exact this
  have F2 : Hid (∀ w', Calls Tryd.prog 26 #[.int .i64 n] w' fun e w'' => ∃ v, e = .returned v ∧ IL w'' w'.heap.size v L ∧ Kp w' w'') := Lib.hid fun w' => by
    have := Factors_any n w'
    unfold factsI at this
    rw [if_neg (by omega), Int.toNat_natCast, hL] at this; exact this
  have F3 : Hid (∀ w', Calls Tryd.prog 29 #[.int .i64 n] w' fun e w'' => ∃ v, e = .returned (.tuple #[v, .bool true]) ∧ IL w'' w'.heap.size v D ∧ Kp w' w'') := Lib.hid fun w' => by
    have := gone_any n w'
    rw [divsI_in h2, hD] at this; exact this
  have hnum : D.length ≤ 5000 := by rw [← hD]; exact num_le (by omega) h2
  have hlen : L.length ≤ 4294967296 := by rw [← hL]; have := facts_length n; omega
  have HP : Hid (∀ p ∈ L, Pri p) := Lib.hid fun p hp => by rw [← hL] at hp; exact (facts_mem hp).1
  have HS : Hid (L.Pairwise (· ≤ ·)) := Lib.hid (by rw [← hL]; exact facts_sorted n)
  have HPR : Hid (L.prod = n) := Lib.hid (by rw [← hL]; exact facts_prod n h1)
  have HRN : Hid (runs L 0 0 1 = D.length) := Lib.hid (by rw [← hL, runs_facts n h1, num, hD])
  have HD : Hid (∀ j (hj : j < D.length), 1 ≤ D[j] ∧ D[j] ≤ n ∧ n % D[j] = 0 ∧ D[D.length - 1 - j]'(by omega) = n / D[j]) := Lib.hid fun j hj => by
    subst hD
    have hm := List.getElem_mem hj
    exact ⟨(divs_le h1 hm).1, (divs_le h1 hm).2, Nat.mod_eq_zero_of_dvd ((mem_divs h1).1 hm), divs_pair h1 hj⟩
  have HD2 : Hid (∀ i j (hj : j < D.length) (hij : i < j), D[i]'(by omega) < D[j]) := Lib.hid fun i j hj hij => by
    subst hD
    exact divs_up hj hij
  have HE := Lib.hid hE
  have d1 : decide ((n : Int) < 1) = false := by simp; omega
  have d2 : decide ((4294967296 : Int) < (n : Int)) = false := by simp; omega
  clear hE hL hD hpb
  go_enter Tryd.func9, Tryd.ntmps9
  go_wp2_with (first
    | (go_at_call 11; (with_reducible refine (fixed_any E _ HE.out).mono ?_); rintro e w0 ⟨rfl, hk0⟩)
    | (go_at_call 26; (with_reducible refine (F2.out _).mono ?_); rintro e w1 ⟨v1, rfl, hI1, hk1⟩; obtain ⟨o1, c1, rfl⟩ := hI1.form)
    | (go_at_call 29; (with_reducible refine (F3.out _).mono ?_); rintro e w2 ⟨v2, rfl, hI2, hk2⟩; obtain ⟨o2, c2, rfl⟩ := hI2.form))
  have hk := (hk0.trans hk1).trans hk2
  have HI1 := Lib.hid (hI1.kp hk2)
  have HI2 := Lib.hid hI2
  clear hk0 hk1 hk2 hI1 hI2 F2 F3 d1 d2
  obtain ⟨m, hm⟩ : ∃ m, L.length = m := ⟨_, rfl⟩
  have HM := Lib.hid hm
  rw [hm] at hlen hpb2 ⊢
  obtain ⟨k, hkk⟩ : ∃ k, D.length = k := ⟨_, rfl⟩
  have HK := Lib.hid hkk
  rw [hkk] at hnum ⊢
  clear hm hkk
  go_loopg [6, 7, 8, 9, 11, 46] m (fun gk a b c d _ x wr => ∃ (P last count run j : Nat), a = .int .i64 P ∧ b = .int .i64 last ∧ c = .int .i64 count ∧ d = .int .i64 run ∧ x = .int .i64 j ∧ j + gk = m ∧ Hid (P * (L.drop j).prod = n) ∧ Hid (runs (L.drop j) last run count = k) ∧ Hid (∀ p ∈ L.drop j, last ≤ p) ∧ 1 ≤ count ∧ P ≤ n ∧ Kp w2 wr)
  case atStart => exact ⟨1, 0, 1, 0, 0, rfl, rfl, rfl, rfl, rfl, by omega, Lib.hid (by simpa using HPR.out), Lib.hid (by have := HRN.out; have := HK.out; simp; omega), Lib.hid (fun p _ => Nat.zero_le p), by omega, h1, Kp.refl _⟩
  case round =>
    obtain ⟨P, last, count, run, j, rfl, rfl, rfl, rfl, rfl, hj, HJ1, HJ2, HJ3, hc1, hPn, hkr⟩ := hrel
    have hge : count * (run + 1) ≤ 5000 := by have := runs_ge (L.drop j) last run count; rw [HJ2.out] at this; omega
    obtain ⟨C, hC⟩ : ∃ C, count * (run + 1) = C := ⟨_, rfl⟩
    rw [hC] at hge
    have hcC : count ≤ C := by rw [← hC]; exact Nat.le_mul_of_pos_right _ (by omega)
    have hrC : run + 1 ≤ C := by rw [← hC]; exact Nat.le_mul_of_pos_left _ hc1
    have e1 : IntKind.i64.wrap ((count : Int) * ((run : Int) + 1)) = (C : Int) := by
      rw [show ((count : Int) * ((run : Int) + 1)) = ((count * (run + 1) : Nat) : Int) by push_cast; rfl, hC]; exact IntWalk.i64_in _ (by omega)
    have HC := Lib.hid hC
    clear hC
    by_cases hjm : j < m
    · have hjl : j < L.length := by rw [HM.out]; exact hjm
      obtain ⟨g1, cc, hc⟩ := IL.some HI1.out (by omega)
      cases hc
      have q1 := hkr.later (IL.cell HI1.out j hjl)
      obtain ⟨p, hp⟩ : ∃ p, L[j] = p := ⟨_, rfl⟩
      rw [hp] at q1
      have hdr : L.drop j = p :: L.drop (j + 1) := by rw [List.drop_eq_getElem_cons hjl, hp]
      have hpm : p ∈ L := by rw [← hp]; exact List.getElem_mem _
      have hpp := HP.out p hpm
      have h3 := hpp.1
      have hle := HJ3.out p (by rw [hdr]; simp)
      have hpr := HJ1.out
      rw [hdr, List.prod_cons, ← Nat.mul_assoc] at hpr
      have hrest : 0 < (L.drop (j + 1)).prod := prod_pos fun q hq => HP.out q (List.mem_of_mem_drop hq)
      obtain ⟨Q, hQ⟩ : ∃ Q, P * p = Q := ⟨_, rfl⟩
      rw [hQ] at hpr
      have hQn : Q ≤ n := by rw [← hpr]; exact Nat.le_mul_of_pos_right _ hrest
      have e2 : IntKind.i64.wrap ((P : Int) * (p : Int)) = (Q : Int) := by rw [← Int.natCast_mul, hQ]; exact IntWalk.i64_in _ (by omega)
      have hpn : p ≤ n := by
        refine Nat.le_trans ?_ hQn
        rw [← hQ]
        refine Nat.le_mul_of_pos_left _ (Nat.pos_of_ne_zero fun h => ?_)
        rw [h, Nat.zero_mul] at hQ
        rw [← hQ, Nat.zero_mul] at hpr
        omega
      have HX1 := Lib.hid hpr
      have HX3 : Hid (∀ q ∈ L.drop (j + 1), p ≤ q) := Lib.hid (by
        have := HS.out.sublist (List.drop_sublist j L)
        rw [hdr, List.pairwise_cons] at this
        exact this.1)
      have FP : Hid (∀ w', Calls Tryd.prog 24 #[.int .i64 p] w' fun e w'' => e = .returned (.bool true) ∧ w' = w'') := Lib.hid fun w' => by
        have := Prime_any p w'; rw [primeB_in h3 (by omega), decide_eq_true hpp] at this; exact this
      have d3 : decide ((p : Int) < (last : Int)) = false := by simp; omega
      have d4 : decide ((p : Int) < 2) = false := by simp; omega
      have d5 : decide ((n : Int) < (P : Int)) = false := by simp; omega
      have HJ2' := HJ2.out
      rw [hdr] at HJ2'
      clear hpr hQ hrest hpp hpm hdr hp
      by_cases hpl : p = last
      · subst hpl
        rw [runs_same] at HJ2'
        have HX2 := Lib.hid HJ2'
        have d6 : ((p : Int) != (p : Int)) = false := by simp
        clear HJ2'
        go_wp2_with (go_at_call 24; (with_reducible refine (FP.out _).mono ?_); rintro e w3 ⟨rfl, rfl⟩)
        go_roundg (gk - 1)
        case rel => exact ⟨Q, p, count, run + 1, j + 1, rfl, rfl, rfl, by go_num, by go_num, by omega, HX1, HX2, HX3, hc1, hQn, hkr⟩
        case measure => omega
      · rw [runs_other hpl, HC.out] at HJ2'
        have HX2 := Lib.hid HJ2'
        have d6 : ((p : Int) != (last : Int)) = true := by rw [bne_iff_ne]; omega
        clear HJ2'
        go_wp2_with (go_at_call 24; (with_reducible refine (FP.out _).mono ?_); rintro e w3 ⟨rfl, rfl⟩)
        go_roundg (gk - 1)
        case rel => exact ⟨Q, p, C, 1, j + 1, rfl, rfl, rfl, by go_num, by go_num, by omega, HX1, HX2, HX3, by omega, hQn, hkr⟩
        case measure => omega
    · obtain rfl : j = m := by omega
      have hPn' : P = n := by have := HJ1.out; rw [← HM.out, List.drop_length, List.prod_nil, Nat.mul_one] at this; exact this
      have hCk : C = k := by have := HJ2.out; rw [← HM.out, List.drop_length] at this; rw [← HC.out]; exact this
      subst hPn'
      subst hCk
      clear HJ1 HJ2 HJ3 hjm hPn hge HC
      have d7 : ((P : Int) != (P : Int)) = false := by simp
      have d8 : (pb != pb) = false := by simp
      go_wp2_with (go_at_call 24; (with_reducible refine (F1.out _).mono ?_); rintro e w3 ⟨rfl, rfl⟩)
      obtain ⟨wo, hwo⟩ : ∃ wo : World, wo = wr := ⟨_, rfl⟩
      rw [← hwo] at hkr ⊢
      clear hwo wr F1 d7 d8 e1
      go_loopg [12, 13, 104] C (fun g2 _ _ y wr => ∃ i : Nat, y = .int .i64 i ∧ i + g2 = C ∧ Kp wo wr)
      case atStart => exact ⟨0, rfl, by omega, Kp.refl _⟩
      case round =>
        obtain ⟨i, rfl, hi, hkw⟩ := hrel
        generalize gk = g2 at *
        by_cases hiC : i < C
        · have hil : i < D.length := by rw [HK.out]; exact hiC
          obtain ⟨g, cc, hc⟩ := IL.some HI2.out (by omega)
          cases hc
          obtain ⟨x, hx⟩ : ∃ x, D[i] = x := ⟨_, rfl⟩
          obtain ⟨y, hy⟩ : ∃ y, D[D.length - 1 - i]'(by omega) = y := ⟨_, rfl⟩
          have hdd := HD.out i hil
          rw [hx, hy] at hdd
          obtain ⟨x1, x2, x3, x4⟩ := hdd
          have q1 := (hkr.trans hkw).later (IL.cell HI2.out i hil)
          have q2 := (hkr.trans hkw).later (IL.cell HI2.out (D.length - 1 - i) (by omega))
          rw [hx] at q1
          rw [hy, HK.out] at q2
          obtain ⟨c1, hc1'⟩ : ∃ c1, C - 1 = c1 := ⟨_, rfl⟩
          obtain ⟨r, hr⟩ : ∃ r, c1 - i = r := ⟨_, rfl⟩
          rw [hc1', hr] at q2
          have e5 : IntKind.i64.wrap ((C : Int) - 1) = (c1 : Int) := by rw [show (C : Int) - 1 = (c1 : Int) by omega]; exact IntWalk.i64_in _ (by omega)
          have e6 : IntKind.i64.wrap ((c1 : Int) - (i : Int)) = (r : Int) := by rw [show (c1 : Int) - (i : Int) = (r : Int) by omega]; exact IntWalk.i64_in _ (by omega)
          have hrC : r < C := by omega
          have e7 : (P : Int) % (x : Int) = 0 := by rw [← Int.natCast_emod, x3]; rfl
          have e8 : IntKind.i64.wrap ((P : Int) / (x : Int)) = (y : Int) := by rw [← Int.natCast_ediv, ← x4]; exact IntWalk.i64_in _ (by have := Nat.div_le_self P x; omega)
          have t1 : decide ((x : Int) < 1) = false := by simp; omega
          have t2 : ((y : Int) != (y : Int)) = false := by simp
          have t3 : ((0 : Int) != 0) = false := by simp
          have hx0 : ¬ (x : Int) = 0 := by omega
          have e6' : wrap64 ((c1 : Int) - (i : Int)) = (r : Int) := by rw [← e6]; exact (IntWalk.i64_left _).symm
          by_cases hi0 : i = 0
          · have t5 : decide (0 < i) = false := by simp; omega
            have t6 : ¬ 0 < i := by omega
            clear x3 x4 hc1' hr hy hx hi0
            go_wp2_with fail
            go_quiet (fail)
            go_wp2_with fail
            go_roundg (g2 - 1)
            case rel => exact ⟨i + 1, by go_num, by omega, hkw.drewN nq⟩
            case measure => omega
          · obtain ⟨i', hi'⟩ : ∃ i', i - 1 = i' := ⟨_, rfl⟩
            have q3 := (hkr.trans hkw).later (IL.cell HI2.out i' (by omega))
            obtain ⟨z, hz⟩ : ∃ z, D[i']'(by omega) = z := ⟨_, rfl⟩
            have hlt := HD2.out i' i hil (by omega)
            rw [hx, hz] at hlt
            rw [hz] at q3
            have e9 : IntKind.i64.wrap ((i : Int) - 1) = (i' : Int) := by rw [show (i : Int) - 1 = (i' : Int) by omega]; exact IntWalk.i64_in _ (by omega)
            have e9' : wrap64 ((i : Int) - 1) = (i' : Int) := by rw [← e9]; exact (IntWalk.i64_left _).symm
            have e10 : (i : Int) - 1 = (i' : Int) := by omega
            have t4 : decide ((x : Int) ≤ (z : Int)) = false := by simp; omega
            have t4' : decide (x ≤ z) = false := by simp; omega
            have t4'' : ¬ x ≤ z := by omega
            have t5 : decide (0 < i) = true := by simp; omega
            have t6 : 0 < i := by omega
            have hiC' : i' < C := by omega
            clear x3 x4 hc1' hr hy hx hz hi' hi0
            go_wp2_with fail
            go_quiet (fail)
            go_wp2_with fail
            go_roundg (g2 - 1)
            case rel => exact ⟨i + 1, by go_num, by omega, hkw.drewN nq⟩
            case measure => omega
        · go_wp2_with fail
          go_ret
          exact ⟨rfl, (hk.trans hkr).trans hkw⟩
theorem walk_PrimesFactors (n : Int) (_ : (Lit.int .i64 n).wf = true) (E : Nat → Addr) (w : World) (hE : Ers w E) :
    Calls Tryd.prog 9 #[.int .i64 n] w fun e w' => e = .returned (.bool true) ∧ Kp w w' := by
  by_cases h : n < 1 ∨ 4294967296 < n
  · exact pfactors_bad n E w hE h
  · obtain ⟨n, rfl⟩ := Int.eq_ofNat_of_zero_le (show 0 ≤ n by omega)
    exact pfactors_ok n E w hE (by omega) (by omega)
end Go.Proofs.YtifbcaiegalhbaaDoor
