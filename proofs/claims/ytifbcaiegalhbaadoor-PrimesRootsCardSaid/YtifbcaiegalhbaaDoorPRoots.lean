/-
  The walk of PrimesRoots: the least root, by its powers.
-/
import Derived.Test.YtifbcaiegalhbaaDoorPModulo
namespace Go.Proofs.YtifbcaiegalhbaaDoor
open Go Go.RowKit Go.Fl Go.Pr

theorem pri_of_primeB {p : Int} (h : primeB p = true) : 2 ≤ p ∧ p ≤ 4294967296 ∧ Pri p.toNat := by unfold primeB at h; simpa using h
set_option maxRecDepth 100000 in
set_option maxHeartbeats 2000000 in
theorem proots_no (p : Int) (E : Nat → Addr) (w : World) (hE : Errs w E) (hb : primeB p = false) :
    Calls Tryd.prog 6 #[.int .i64 p] w fun e w' => e = .returned (.bool true) ∧ Kp w w' := by
  have F1 : Hid (∀ w', Calls Tryd.prog 24 #[.int .i64 p] w' fun e w'' => e = .returned (.bool false) ∧ w' = w'') := Lib.hid fun w' => by have := Prime_any p w'; rw [hb] at this; exact this
  have F2 : Hid (∀ w', Errs w' E → Calls Tryd.prog 25 #[.int .i64 p] w' fun e w'' => e = .returned (.tuple #[.int .i64 0, .iface 64 (.pointer (some (E 10)))]) ∧ Dr w' w'') := Lib.hid fun w' h => Root_no p _ w' h.root hb
  have HE := Lib.hid hE
  clear hb hE
  go_enter Tryd.func6, Tryd.ntmps6
  go_wp2_with (first
    | (go_at_call 11; (with_reducible refine (fixed_any E _ HE.out.ers).mono ?_); rintro e w0 ⟨rfl, hk0⟩; have HE0 := Lib.hid (HE.out.kp hk0))
    | (go_at_call 25; (with_reducible refine (F2.out _ HE0.out).mono ?_); rintro e w1 ⟨rfl, hk1⟩; have HE1 := Lib.hid (HE0.out.kp hk1.kp))
    | (go_at_call 24; (with_reducible refine (F1.out _).mono ?_); rintro e w2 ⟨rfl, rfl⟩)
    | (go_at_call 16; (with_reducible refine (Num_root E _ HE1.out).mono ?_); rintro e w3 ⟨rfl, hk3⟩))
  go_ret
  exact ⟨rfl, (hk0.trans hk1.kp).trans hk3⟩
set_option maxRecDepth 100000 in
set_option maxHeartbeats 4000000 in
theorem proots_yes (p : Nat) (E : Nat → Addr) (w : World) (hE : Errs w E) (hp : Pri p) (hpb : p ≤ 4294967296) :
    Calls Tryd.prog 6 #[.int .i64 p] w fun e w' => e = .returned (.bool true) ∧ Kp w w' := by
  have h2 := hp.1
  have hB : primeB p = true := by rw [primeB_in h2 hpb]; exact decide_eq_true hp
  have F1 : Hid (∀ w', Calls Tryd.prog 24 #[.int .i64 p] w' fun e w'' => e = .returned (.bool true) ∧ w' = w'') := Lib.hid fun w' => by have := Prime_any p w'; rw [hB] at this; exact this
  have F2 : Hid (∀ w', Calls Tryd.prog 25 #[.int .i64 p] w' fun e w'' => ∃ g : Nat, e = .returned (.tuple #[.int .i64 g, .nilIface]) ∧ Hid (IsRoot p g) ∧ g < p ∧ Kp w' w'') := Lib.hid fun w' => Root_yes p w' hp hpb
  obtain ⟨L, hL⟩ : ∃ L, facts (p - 1) = L := ⟨_, rfl⟩
  have HF : Hid (∀ w', Calls Tryd.prog 26 #[.int .i64 ((p : Int) - 1)] w' fun e w'' => ∃ v, e = .returned v ∧ IL w'' w'.heap.size v L ∧ Kp w' w'') := Lib.hid fun w' => by
    have := Factors_any ((p : Int) - 1) w'
    rw [show (p : Int) - 1 = ((p - 1 : Nat) : Int) by omega, factsI_nat (by omega), hL] at this
    rw [show (p : Int) - 1 = ((p - 1 : Nat) : Int) by omega]
    exact this
  have hlen : L.length ≤ 4294967296 := by rw [← hL]; have := facts_length (p - 1); omega
  have HL := Lib.hid hL
  have HE := Lib.hid hE
  clear hB hL hE hp
  go_enter Tryd.func6, Tryd.ntmps6
  go_wp2_with (first
    | (go_at_call 11; (with_reducible refine (fixed_any E _ HE.out.ers).mono ?_); rintro e w0 ⟨rfl, hk0⟩)
    | (go_at_call 25; (with_reducible refine (F2.out _).mono ?_); rintro e w1 ⟨g, rfl, HR, hgp, hk1⟩; have hg1 : 1 ≤ g := HR.out.1; have d1 : decide ((g : Int) < 1) = false := (by simp; omega); have d2 : decide ((p : Int) ≤ (g : Int)) = false := (by simp; omega); have d2' : ¬ p ≤ g := (by omega))
    | (go_at_call 24; (with_reducible refine (F1.out _).mono ?_); rintro e w2 ⟨rfl, rfl⟩)
    | (go_at_call 26; (with_reducible refine (HF.out _).mono ?_); rintro e w3 ⟨v, rfl, hIL, hk3⟩; obtain ⟨o, c, rfl⟩ := hIL.form))
  have hk := (hk0.trans hk1).trans hk3
  clear hk0 hk1 hk3 F1 F2 HF d1 d2 d2'
  obtain ⟨n, hn⟩ : ∃ n, L.length = n := ⟨_, rfl⟩
  have HN := Lib.hid hn
  have HIL := Lib.hid hIL
  rw [hn] at hlen ⊢
  clear hn hIL
  go_loopg [6, 7, 9] g (fun gk x _ _ wr => ∃ h : Nat, x = .int .i64 h ∧ h + gk = g + 1 ∧ 0 < h ∧ Kp w3 wr)
  case atStart => exact ⟨1, rfl, by omega, by omega, Kp.refl _⟩
  case round =>
    obtain ⟨h, rfl, hgk, hh0, hkr⟩ := hrel
    generalize gk = g1 at *
    by_cases hle : h ≤ g
    · have d1 : decide ((h : Int) ≤ (g : Int)) = true := by simpa using hle
      go_wp2_with fail
      obtain ⟨wo, hwo⟩ : ∃ wo : World, wo = wr := ⟨_, rfl⟩
      rw [← hwo] at hkr ⊢
      clear hwo wr
      go_loopg [7, 9, 52] n (fun g2 b _ y wr => ∃ (j : Nat) (ok : Bool), b = .bool ok ∧ y = .int .i64 j ∧ j + g2 = n ∧ Hid (ok = true ↔ ∀ i (hi : i < L.length), i < j → h ^ ((p - 1) / L[i]) % p ≠ 1) ∧ Kp w3 wr)
      case atStart => exact ⟨0, true, rfl, rfl, by omega, Lib.hid ⟨fun _ i hi h => by omega, fun _ => rfl⟩, hkr⟩
      case round =>
        clear hkr
        obtain ⟨j, ok, rfl, rfl, hj, HJ, hkr⟩ := hrel
        by_cases hjn : j < n
        · have hjl : j < L.length := by rw [HN.out]; exact hjn
          obtain ⟨gg, cc, hc⟩ := IL.some HIL.out (by omega)
          cases hc
          have q1 := hkr.later (IL.cell HIL.out j hjl)
          obtain ⟨q, hq⟩ : ∃ q, L[j] = q := ⟨_, rfl⟩
          rw [hq] at q1
          have hqm : q ∈ facts (p - 1) := by rw [HL.out, ← hq]; exact List.getElem_mem _
          have hq2 := (facts_mem hqm).1.1
          have hqp : q ≤ p - 1 := Nat.le_of_dvd (by omega) (facts_mem hqm).2
          have HQ := Lib.hid hq
          clear hq hqm
          cases ok with
          | false =>
            have HX : Hid (false = true ↔ ∀ i (hi : i < L.length), i < j + 1 → h ^ ((p - 1) / L[i]) % p ≠ 1) := Lib.hid ⟨fun h => (by cases h), fun h => HJ.out.2 fun i hi hlt => h i hi (by omega)⟩
            go_wp2_with fail
            go_roundg (gk - 1)
            case rel => exact ⟨j + 1, false, rfl, by go_num, by omega, HX, hkr⟩
            case measure => omega
          | true =>
            obtain ⟨D, hD⟩ : ∃ D, (p - 1) / q = D := ⟨_, rfl⟩
            have hDb : D ≤ p - 1 := by rw [← hD]; exact Nat.div_le_self _ _
            have e3 : ((p : Int) - 1) / (q : Int) = (D : Int) := by rw [show (p : Int) - 1 = ((p - 1 : Nat) : Int) by omega, ← Int.natCast_ediv, hD]
            obtain ⟨R, hR⟩ : ∃ R, h ^ D % p = R := ⟨_, rfl⟩
            have HC : Hid (∀ w', Calls Tryd.prog 19 #[.int .u64 h, .int .u64 D, .int .u64 p] w' fun e w'' => e = .returned (.int .u64 R) ∧ Dr w' w'') := Lib.hid fun w' => by have := Pow_nat h D p w' (by omega) (by omega) (by omega) (by omega); rw [hR] at this; exact this
            have HR' := Lib.hid hR
            have HD := Lib.hid hD
            clear hD hR
            by_cases h1 : R = 1
            · have d2 : ((R : Int) != 1) = false := by rw [h1]; rfl
              have HX : Hid (false = true ↔ ∀ i (hi : i < L.length), i < j + 1 → h ^ ((p - 1) / L[i]) % p ≠ 1) := Lib.hid ⟨fun h => (by cases h), fun hh => absurd (show h ^ ((p - 1) / L[j]) % p = 1 by rw [HQ.out, HD.out, HR'.out]; exact h1) (hh j hjl (by omega))⟩
              clear h1
              go_wp2_with (go_at_call 19; (with_reducible refine (HC.out _).mono ?_); rintro e w4 ⟨rfl, hd⟩)
              go_roundg (gk - 1)
              case rel => exact ⟨j + 1, false, rfl, by go_num, by omega, HX, hkr.trans hd.kp⟩
              case measure => omega
            · have d2 : ((R : Int) != 1) = true := by rw [bne_iff_ne]; omega
              have HX : Hid (true = true ↔ ∀ i (hi : i < L.length), i < j + 1 → h ^ ((p - 1) / L[i]) % p ≠ 1) := Lib.hid ⟨fun _ i hi hlt => by
                rcases Nat.lt_or_ge i j with c | c
                · exact HJ.out.1 rfl i hi c
                · obtain rfl : i = j := by omega
                  rw [HQ.out, HD.out, HR'.out]; exact h1, fun _ => rfl⟩
              clear h1
              go_wp2_with (go_at_call 19; (with_reducible refine (HC.out _).mono ?_); rintro e w4 ⟨rfl, hd⟩)
              go_roundg (gk - 1)
              case rel => exact ⟨j + 1, true, rfl, by go_num, by omega, Lib.hid ⟨fun _ => HX.out.1 trivial, fun _ => rfl⟩, hkr.trans hd.kp⟩
              case measure => omega
        · obtain rfl : j = n := by omega
          have HX : prim p h = ok := by
            rw [Bool.eq_iff_iff]
            rw [HJ.out]
            constructor
            · intro hh i hi hlt hp1
              have hm : L[i] ∈ facts (p - 1) := by rw [HL.out]; exact List.getElem_mem _
              have := prim_no hm hp1
              rw [hh] at this; cases this
            · intro hh
              refine prim_yes fun i hi => ?_
              have h1 : i < L.length := by rw [← HL.out]; exact hi
              have := hh i h1 (by have := HN.out; omega)
              have e : (facts (p - 1))[i] = L[i] := by simp only [HL.out]
              rw [e]; exact this
          have hok : ok = decide ((h : Int) = (g : Int)) := by
            rw [← HX]
            by_cases hg : h = g
            · rw [hg, HR.out.2.1]; simp
            · rw [HR.out.2.2 h hh0 (by omega)]
              symm
              exact decide_eq_false (by omega)
          clear hjn HX HJ
          by_cases hg : h = g
          · have d3 : ((h : Int) == (g : Int)) = true := by rw [hg]; simp
            obtain rfl : ok = true := by rw [hok, hg]; simp
            clear hok hg
            go_wp2_with fail
            go_roundg (g1 - 1)
            case rel => exact ⟨h + 1, by go_num, by omega, by omega, hkr⟩
            case measure => omega
          · have d3 : ((h : Int) == (g : Int)) = false := by rw [beq_eq_false_iff_ne]; omega
            obtain rfl : ok = false := by rw [hok]; exact decide_eq_false (by omega)
            clear hok
            go_wp2_with fail
            go_roundg (g1 - 1)
            case rel => exact ⟨h + 1, by go_num, by omega, by omega, hkr⟩
            case measure => omega
    · have d1 : decide ((h : Int) ≤ (g : Int)) = false := by simp; omega
      go_wp2_with fail
      go_ret
      exact ⟨rfl, hk.trans hkr⟩
theorem walk_PrimesRoots (p : Int) (_ : (Lit.int .i64 p).wf = true) (E : Nat → Addr) (w : World) (hE : Errs w E) :
    Calls Tryd.prog 6 #[.int .i64 p] w fun e w' => e = .returned (.bool true) ∧ Kp w w' := by
  by_cases h : primeB p = true
  · have h3 := pri_of_primeB h
    obtain ⟨q, rfl⟩ := Int.eq_ofNat_of_zero_le (show 0 ≤ p by omega)
    exact proots_yes q E w hE h3.2.2 (by omega)
  · exact proots_no p E w hE (by simpa using h)
end Go.Proofs.YtifbcaiegalhbaaDoor
