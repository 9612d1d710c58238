/-
  The walks of Root, and of the reference's own.
-/
import Derived.Test.YtifbcaiegalhbaaDoorPFac2
import Derived.Test.YtifbcaiegalhbaaDoorPMul
import Derived.Deep.LoopGhost
import Derived.Outline
namespace Go.Proofs.YtifbcaiegalhbaaDoor
open Go Go.RowKit Go.Fl Go.Pr

/-- g is the least primitive root. -/
def IsRoot (p g : Nat) : Prop := 0 < g ∧ prim p g = true ∧ ∀ h, 0 < h → h < g → prim p h = false
theorem IsRoot.uniq {p g h : Nat} (a : IsRoot p g) (b : IsRoot p h) : g = h := by
  rcases Nat.lt_trichotomy g h with c | c | c
  · have := b.2.2 g a.1 c; rw [a.2.1] at this; cases this
  · exact c
  · have := a.2.2 h b.1 c; rw [b.2.1] at this; cases this
theorem prim_no {p g q : Nat} (hq : q ∈ facts (p - 1)) (h : g ^ ((p - 1) / q) % p = 1) : prim p g = false := by
  rw [Bool.eq_false_iff]
  intro h2
  unfold prim at h2
  have := List.all_eq_true.1 h2 q hq
  simp [h] at this
theorem prim_yes {p g : Nat} (h : ∀ i (hi : i < (facts (p - 1)).length), g ^ ((p - 1) / (facts (p - 1))[i]) % p ≠ 1) : prim p g = true := by
  unfold prim
  rw [List.all_eq_true]
  intro q hq
  obtain ⟨i, hi, rfl⟩ := List.getElem_of_mem hq
  simpa using h i hi
theorem factsI_nat {n : Nat} (h : n ≤ 4294967296) : factsI n = facts n := by unfold factsI; rw [if_neg (by omega)]; rfl
set_option maxRecDepth 100000 in
set_option maxHeartbeats 2000000 in
theorem Root_yes (p : Nat) (w : World) (hp : Pri p) (hpb : p ≤ 4294967296) :
    Calls Tryd.prog 25 #[.int .i64 p] w fun e w' => ∃ g : Nat, e = .returned (.tuple #[.int .i64 g, .nilIface]) ∧ Hid (IsRoot p g) ∧ g < p ∧ Kp w w' := by
  obtain ⟨G, hG0, hGp, hG⟩ := exists_prim hp
  have h2 := hp.1
  have hB : primeB p = true := by rw [primeB_in h2 hpb]; exact decide_eq_true hp
  have HC : Hid (∀ w', Calls Tryd.prog 24 #[.int .i64 p] w' fun e w'' => e = .returned (.bool true) ∧ w' = w'') := Lib.hid fun w' => by have := Prime_any p w'; rw [hB] at this; exact this
  obtain ⟨L, hL⟩ : ∃ L, facts (p - 1) = L := ⟨_, rfl⟩
  have HF : Hid (∀ w', Calls Tryd.prog 26 #[.int .i64 ((p : Int) - 1)] w' fun e w'' => ∃ v, e = .returned v ∧ IL w'' w'.heap.size v L ∧ Kp w' w'') := Lib.hid fun w' => by
    have := Factors_any ((p : Int) - 1) w'
    rw [show (p : Int) - 1 = ((p - 1 : Nat) : Int) by omega, factsI_nat (by omega), hL] at this
    rw [show (p : Int) - 1 = ((p - 1 : Nat) : Int) by omega]
    exact this
  have hlen : L.length ≤ 4294967296 := by rw [← hL]; have := facts_length (p - 1); omega
  have HL := Lib.hid hL
  have HG := Lib.hid hG
  have HP := Lib.hid hp
  clear hB hL hG hp
  have e1 : IntKind.u64.wrap ((p : Int) - 1) = ((p - 1 : Nat) : Int) := by rw [IntKind.wrap_u64]; omega
  go_enter Tryd.func25, Tryd.ntmps25
  go_wp2_with fail
  go_step3
  go_wp2_with (first
    | (go_at_call 24; (with_reducible refine (HC.out _).mono ?_); rintro e w1 ⟨rfl, rfl⟩)
    | (go_at_call 26; (with_reducible refine (HF.out _).mono ?_); rintro e w2 ⟨v, rfl, hIL, hk⟩; obtain ⟨o, c, rfl⟩ := hIL.form))
  go_step3
  go_wp2_with fail
  clear HC HF
  obtain ⟨n, hn⟩ : ∃ n, L.length = n := ⟨_, rfl⟩
  have HN := Lib.hid hn
  have HIL := Lib.hid hIL
  rw [hn] at hlen ⊢
  clear hn hIL
  go_loopg [6, 8] (G - 1) (fun gk x _ wr => ∃ g : Nat, x = .int .u64 g ∧ g + gk = G ∧ 0 < g ∧ Hid (∀ h, 0 < h → h < g → prim p h = false) ∧ Kp w2 wr)
  case atStart => exact ⟨1, rfl, by omega, by omega, Lib.hid fun h h1 h2 => by omega, Kp.refl _⟩
  case round =>
    obtain ⟨g, rfl, hgk, hg0, HH, hkr⟩ := hrel
    generalize gk = g1 at *
    go_wp2_with fail
    obtain ⟨wo, hwo⟩ : ∃ wo : World, wo = wr := ⟨_, rfl⟩
    rw [← hwo] at hkr ⊢
    clear hwo wr
    go_loopg [8, 22] n (fun g2 _ y wr => ∃ j : Nat, y = .int .i64 j ∧ j + g2 = n ∧ Hid (∀ i (hi : i < L.length), i < j → g ^ ((p - 1) / L[i]) % p ≠ 1) ∧ Kp w2 wr)
    case atStart => exact ⟨0, rfl, by omega, Lib.hid fun i hi h => by omega, hkr⟩
    case round =>
      clear hkr
      obtain ⟨j, rfl, hj, HJ, hkr⟩ := hrel
      by_cases hjn : j < n
      · have hjl : j < L.length := by rw [HN.out]; exact hjn
        obtain ⟨gg, cc, hc⟩ := IL.some HIL.out (by omega)
        cases hc
        have q1 := hkr.later (IL.cell HIL.out j hjl)
        obtain ⟨q, hq⟩ : ∃ q, L[j] = q := ⟨_, rfl⟩
        rw [hq] at q1
        have hqm : q ∈ facts (p - 1) := by rw [HL.out, ← hq]; exact List.getElem_mem _
        have hq2 := (facts_mem hqm).1.1
        have hqp : q ≤ p - 1 := Nat.le_of_dvd (by omega) (facts_mem hqm).2
        obtain ⟨D, hD⟩ : ∃ D, (p - 1) / q = D := ⟨_, rfl⟩
        have hDb : D ≤ p - 1 := by rw [← hD]; exact Nat.div_le_self _ _
        have e3 : IntKind.u64.wrap (((p - 1 : Nat) : Int) / (q : Int)) = (D : Int) := by rw [← Int.natCast_ediv, hD, IntKind.wrap_u64]; omega
        obtain ⟨R, hR⟩ : ∃ R, g ^ D % p = R := ⟨_, rfl⟩
        have HC : Hid (∀ w', Calls Tryd.prog 19 #[.int .u64 g, .int .u64 D, .int .u64 p] w' fun e w'' => e = .returned (.int .u64 R) ∧ Dr w' w'') := Lib.hid fun w' => by have := Pow_nat g D p w' (by omega) (by omega) (by omega) (by omega); rw [hR] at this; exact this
        have HR := Lib.hid hR
        have HD := Lib.hid hD
        have HQ := Lib.hid hq
        have HM := Lib.hid hqm
        clear hq hqm hD hR
        by_cases h1 : R = 1
        · have d1 : ((R : Int) == 1) = true := by rw [h1]; rfl
          have HX : Hid (prim p g = false) := Lib.hid (prim_no HM.out (by rw [HD.out, HR.out]; exact h1))
          have hlt : g < G := by
            refine Nat.lt_of_le_of_ne (by omega) fun e => ?_
            have := HX.out
            rw [e, HG.out] at this; cases this
          clear h1
          go_wp2_with (go_at_call 19; (with_reducible refine (HC.out _).mono ?_); rintro e w3 ⟨rfl, hd⟩)
          go_roundg (g1 - 1)
          case rel => exact ⟨g + 1, by go_num, by omega, by omega, Lib.hid fun h a b => by
            rcases Nat.lt_or_ge h g with c | c
            · exact HH.out h a c
            · obtain rfl : h = g := by omega
              exact HX.out, hkr.trans hd.kp⟩
          case measure => omega
        · have d1 : ((R : Int) == 1) = false := by rw [beq_eq_false_iff_ne]; omega
          have HX : Hid (∀ i (hi : i < L.length), i < j + 1 → g ^ ((p - 1) / L[i]) % p ≠ 1) := Lib.hid fun i hi h => by
            rcases Nat.lt_or_ge i j with c | c
            · exact HJ.out i hi c
            · obtain rfl : i = j := by omega
              rw [HQ.out, HD.out, HR.out]; exact h1
          clear h1
          go_wp2_with (go_at_call 19; (with_reducible refine (HC.out _).mono ?_); rintro e w3 ⟨rfl, hd⟩)
          go_roundg (gk - 1)
          case rel => exact ⟨j + 1, by go_num, by omega, HX, hkr.trans hd.kp⟩
          case measure => omega
      · have HX : Hid (prim p g = true) := Lib.hid (prim_yes fun i hi => by
          have h1 : i < L.length := by rw [← HL.out]; exact hi
          have := HJ.out i h1 (by have := HN.out; omega)
          have e : (facts (p - 1))[i] = L[i] := by simp only [HL.out]
          rw [e]; exact this)
        obtain rfl : j = n := by omega
        have hgb : g ≤ G := by omega
        clear hjn
        go_wp2_with fail
        rw [Exit.noGoto_ret]
        go_ret2
        refine ⟨g, rfl, Lib.hid ⟨hg0, HX.out, HH.out⟩, by omega, hk.trans hkr⟩
set_option maxHeartbeats 400000 in
theorem Root_no (n : Int) (aE : Addr) (w : World) (hE : errAt w 0 aE) (h : primeB n = false) :
    Calls Tryd.prog 25 #[.int .i64 n] w fun e w' => e = .returned (.tuple #[.int .i64 0, .iface 64 (.pointer (some aE))]) ∧ Dr w w' := by
  unfold errAt at hE
  have HC : Hid (∀ w', Calls Tryd.prog 24 #[.int .i64 n] w' fun e w'' => e = .returned (.bool false) ∧ w' = w'') := Lib.hid fun w' => by have := Prime_any n w'; rw [h] at this; exact this
  clear h
  go_enter Tryd.func25, Tryd.ntmps25
  go_wp2_with fail
  go_step3
  go_wp2_with (go_at_call 24; (with_reducible refine (HC.out _).mono ?_); rintro e w1 ⟨rfl, rfl⟩)
  go_quiet (fail)
  go_wp2_with fail
  rw [Exit.noGoto_ret]
  go_ret2
  exact ⟨rfl, (Dr.refl _).drewN nq⟩

/-! ### The reference's -/
set_option maxHeartbeats 400000 in
theorem rRoot_no (n : Int) (w : World) (h : primeB n = false) :
    Calls Tryd.prog 30 #[.int .i64 n] w fun e w' => e = .returned (.tuple #[.int .i64 0, .int .i64 11]) ∧ Kp w w' := by
  have HC : Hid (∀ w', Calls Tryd.prog 34 #[.int .i64 n] w' fun e w'' => e = .returned (.bool false) ∧ Kp w' w'') := Lib.hid fun w' => by have := rPrime_any n w'; rw [h] at this; exact this
  clear h
  go_enter Tryd.func30, Tryd.ntmps30
  go_wp2_with (go_at_call 34; (with_reducible refine (HC.out _).mono ?_); rintro e w1 ⟨rfl, hk⟩)
  go_ret2
  exact ⟨rfl, hk⟩
set_option maxRecDepth 100000 in
set_option maxHeartbeats 2000000 in
theorem rRoot_yes (p : Nat) (w : World) (hp : Pri p) (hpb : p ≤ 4294967296) :
    Calls Tryd.prog 30 #[.int .i64 p] w fun e w' => ∃ g : Nat, e = .returned (.tuple #[.int .i64 g, .int .i64 0]) ∧ Hid (IsRoot p g) ∧ g < p ∧ Kp w w' := by
  obtain ⟨G, hG0, hGp, hG⟩ := exists_prim hp
  have h2 := hp.1
  have hB : primeB p = true := by rw [primeB_in h2 hpb]; exact decide_eq_true hp
  have HC : Hid (∀ w', Calls Tryd.prog 34 #[.int .i64 p] w' fun e w'' => e = .returned (.bool true) ∧ Kp w' w'') := Lib.hid fun w' => by have := rPrime_any p w'; rw [hB] at this; exact this
  obtain ⟨L, hL⟩ : ∃ L, facts (p - 1) = L := ⟨_, rfl⟩
  have HF : Hid (∀ w', Calls Tryd.prog 33 #[.int .i64 ((p : Int) - 1)] w' fun e w'' => ∃ v, e = .returned v ∧ IL w'' w'.heap.size v L ∧ Kp w' w'') := Lib.hid fun w' => by
    have := rFactors_any ((p : Int) - 1) w'
    rw [show (p : Int) - 1 = ((p - 1 : Nat) : Int) by omega, factsI_nat (by omega), hL] at this
    rw [show (p : Int) - 1 = ((p - 1 : Nat) : Int) by omega]
    exact this
  have hlen : L.length ≤ 4294967296 := by rw [← hL]; have := facts_length (p - 1); omega
  have HL := Lib.hid hL
  have HG := Lib.hid hG
  clear hB hL hG hp
  go_enter Tryd.func30, Tryd.ntmps30
  go_wp2_with (first
    | (go_at_call 34; (with_reducible refine (HC.out _).mono ?_); rintro e w1 ⟨rfl, hk1⟩)
    | (go_at_call 33; (with_reducible refine (HF.out _).mono ?_); rintro e w2 ⟨v, rfl, hIL, hk⟩; obtain ⟨o, c, rfl⟩ := hIL.form))
  have hkk := hk1.trans hk
  clear HC HF hk1 hk
  obtain ⟨n, hn⟩ : ∃ n, L.length = n := ⟨_, rfl⟩
  have HN := Lib.hid hn
  have HIL := Lib.hid hIL
  rw [hn] at hlen ⊢
  clear hn hIL
  go_loopg [5, 6, 7] (G - 1) (fun gk x _ _ wr => ∃ g : Nat, x = .int .i64 g ∧ g + gk = G ∧ 0 < g ∧ Hid (∀ h, 0 < h → h < g → prim p h = false) ∧ Kp w2 wr)
  case atStart => exact ⟨1, rfl, by omega, by omega, Lib.hid fun h h1 h2 => by omega, Kp.refl _⟩
  case round =>
    obtain ⟨g, rfl, hgk, hg0, HH, hkr⟩ := hrel
    generalize gk = g1 at *
    go_wp2_with fail
    obtain ⟨wo, hwo⟩ : ∃ wo : World, wo = wr := ⟨_, rfl⟩
    rw [← hwo] at hkr ⊢
    clear hwo wr
    go_loopg [6, 7] n (fun g2 b y wr => ∃ (j : Nat) (ok : Bool), b = .bool ok ∧ y = .int .i64 j ∧ j + g2 = n ∧ Hid (ok = true ↔ ∀ i (hi : i < L.length), i < j → g ^ ((p - 1) / L[i]) % p ≠ 1) ∧ Kp w2 wr)
    case atStart => exact ⟨0, true, rfl, rfl, by omega, Lib.hid ⟨fun _ i hi h => by omega, fun _ => rfl⟩, hkr⟩
    case round =>
      clear hkr
      obtain ⟨j, ok, rfl, rfl, hj, HJ, hkr⟩ := hrel
      by_cases hjn : j < n
      · have hjl : j < L.length := by rw [HN.out]; exact hjn
        obtain ⟨gg, cc, hc⟩ := IL.some HIL.out (by omega)
        cases hc
        have q1 := hkr.later (IL.cell HIL.out j hjl)
        obtain ⟨q, hq⟩ : ∃ q, L[j] = q := ⟨_, rfl⟩
        rw [hq] at q1
        have hqm : q ∈ facts (p - 1) := by rw [HL.out, ← hq]; exact List.getElem_mem _
        have hq2 := (facts_mem hqm).1.1
        have hqp : q ≤ p - 1 := Nat.le_of_dvd (by omega) (facts_mem hqm).2
        obtain ⟨D, hD⟩ : ∃ D, (p - 1) / q = D := ⟨_, rfl⟩
        have hDb : D ≤ p - 1 := by rw [← hD]; exact Nat.div_le_self _ _
        have e3 : ((p : Int) - 1) / (q : Int) = (D : Int) := by rw [show (p : Int) - 1 = ((p - 1 : Nat) : Int) by omega, ← Int.natCast_ediv, hD]
        obtain ⟨R, hR⟩ : ∃ R, g ^ D % p = R := ⟨_, rfl⟩
        have HC : Hid (∀ w', Calls Tryd.prog 20 #[.int .u64 g, .int .u64 D, .int .u64 p] w' fun e w'' => e = .returned (.int .u64 R) ∧ Dr w' w'') := Lib.hid fun w' => by have := rPow_nat g D p w' (by omega) (by omega) (by omega) (by omega); rw [hR] at this; exact this
        have HR := Lib.hid hR
        have HD := Lib.hid hD
        have HQ := Lib.hid hq
        clear hq hqm hD hR
        by_cases h1 : R = 1
        · have d1 : ((R : Int) == 1) = true := by rw [h1]; rfl
          have HX : Hid (false = true ↔ ∀ i (hi : i < L.length), i < j + 1 → g ^ ((p - 1) / L[i]) % p ≠ 1) := Lib.hid ⟨fun h => (by cases h), fun h => absurd (show g ^ ((p - 1) / L[j]) % p = 1 by rw [HQ.out, HD.out, HR.out]; exact h1) (h j hjl (by omega))⟩
          clear h1
          go_wp2_with (go_at_call 20; (with_reducible refine (HC.out _).mono ?_); rintro e w3 ⟨rfl, hd⟩)
          go_roundg (gk - 1)
          case rel => exact ⟨j + 1, false, rfl, by go_num, by omega, HX, hkr.trans hd.kp⟩
          case measure => omega
        · have d1 : ((R : Int) == 1) = false := by rw [beq_eq_false_iff_ne]; omega
          have HX : Hid (ok = true ↔ ∀ i (hi : i < L.length), i < j + 1 → g ^ ((p - 1) / L[i]) % p ≠ 1) := Lib.hid ⟨fun h i hi hlt => by
            rcases Nat.lt_or_ge i j with c | c
            · exact HJ.out.1 h i hi c
            · obtain rfl : i = j := by omega
              rw [HQ.out, HD.out, HR.out]; exact h1, fun h => HJ.out.2 fun i hi hlt => h i hi (by omega)⟩
          clear h1
          go_wp2_with (go_at_call 20; (with_reducible refine (HC.out _).mono ?_); rintro e w3 ⟨rfl, hd⟩)
          go_roundg (gk - 1)
          case rel => exact ⟨j + 1, ok, rfl, by go_num, by omega, HX, hkr.trans hd.kp⟩
          case measure => omega
      · obtain rfl : j = n := by omega
        have HX : Hid (prim p g = ok) := by
          refine Lib.hid ?_
          rw [Bool.eq_iff_iff]
          rw [HJ.out]
          constructor
          · intro h i hi hlt hp1
            have hm : L[i] ∈ facts (p - 1) := by rw [HL.out]; exact List.getElem_mem _
            have := prim_no hm hp1
            rw [h] at this; cases this
          · intro h
            refine prim_yes fun i hi => ?_
            have h1 : i < L.length := by rw [← HL.out]; exact hi
            have := h i h1 (by have := HN.out; omega)
            have e : (facts (p - 1))[i] = L[i] := by simp only [HL.out]
            rw [e]; exact this
        have hgb : g ≤ G := by omega
        clear hjn
        cases ok with
        | true =>
          go_wp2_with fail
          go_ret2
          exact ⟨g, rfl, Lib.hid ⟨hg0, HX.out, HH.out⟩, by omega, hkk.trans hkr⟩
        | false =>
          have hlt : g < G := by
            refine Nat.lt_of_le_of_ne (by omega) fun e => ?_
            have := HX.out
            rw [e, HG.out] at this; cases this
          go_wp2_with fail
          go_roundg (g1 - 1)
          case rel => exact ⟨g + 1, by go_num, by omega, by omega, Lib.hid fun h a b => by
            rcases Nat.lt_or_ge h g with c | c
            · exact HH.out h a c
            · obtain rfl : h = g := by omega
              exact HX.out, hkr⟩
          case measure => omega
end Go.Proofs.YtifbcaiegalhbaaDoor
