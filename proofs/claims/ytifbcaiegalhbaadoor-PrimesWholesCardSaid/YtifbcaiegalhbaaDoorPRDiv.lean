/-
  The walk of the reference's Divisors: the small ones, and what is left by them.
-/
import Derived.Test.YtifbcaiegalhbaaDoorPFac
import Derived.Test.YtifbcaiegalhbaaDoorPSym
namespace Go.Pr
/-- A: the divisors below d; those of its first j are still to be looked at, all at most c. -/
def Dn (N d : Nat) (A : List Nat) (j c : Nat) (out rest : List Nat) : Prop :=
  Hi N d c out rest ∧ c < d ∧ (∀ x, N % x = 0 → x ≤ c → x ∈ A.take j) ∧ ∀ x ∈ A.take j, x ≤ c
theorem Dn.start {N d : Nat} {A rest : List Nat} (hN : 0 < N) (hd : 0 < d) (h : Lo N d A rest) (hd2 : N < d * d) : Dn N d A A.length (d - 1) A rest := by
  refine ⟨h.hi fun x hx => ?_, by omega, fun x h1 h2 => ?_, fun x hx => ?_⟩
  · have h3 : d * d ≤ d * x := Nat.mul_le_mul_left d hx
    have : N / x < d := Nat.div_lt_of_lt_mul (by rw [Nat.mul_comm]; omega)
    omega
  · rw [List.take_length]
    have hm : x ∈ A ++ rest := by rw [h.1, mem_divs hN]; exact Nat.dvd_of_mod_eq_zero h1
    exact (List.mem_append.1 hm).elim id fun h4 => absurd (h.2.2 x h4) (by omega)
  · rw [List.take_length] at hx
    have := h.2.1 x hx
    omega
theorem Dn.step {N d i c : Nat} {A out rest : List Nat} (hN : 0 < N) (hA : A.Pairwise (· < ·)) (h : Dn N d A (i + 1) c out rest) (hi : i < A.length) (hy : N % A[i] = 0) (hy0 : 0 < A[i]) :
    A[i] < d ∧ (d ≤ N / A[i] → ∃ rest', rest = N / A[i] :: rest' ∧ Dn N d A i (A[i] - 1) (out ++ [N / A[i]]) rest') ∧ (¬ d ≤ N / A[i] → Dn N d A i (A[i] - 1) out rest) := by
  obtain ⟨h1, h2, h3, h4⟩ := h
  have ht : A.take (i + 1) = A.take i ++ [A[i]] := by rw [List.take_add_one, List.getElem?_eq_getElem hi]; rfl
  have hlt : ∀ x ∈ A.take i, x < A[i] := fun x hx => by
    obtain ⟨k, hk, rfl⟩ := List.getElem_of_mem hx
    rw [List.length_take] at hk
    rw [List.getElem_take]
    exact List.pairwise_iff_getElem.1 hA k i (by omega) hi (by omega)
  have hyc : A[i] ≤ c := h4 _ (by rw [ht]; exact List.mem_append_right _ (List.mem_singleton.2 rfl))
  have hH : Hi N d A[i] out rest := h1.down hN hyc fun x e1 e2 e3 _ => by
    have := h3 x e3 e2
    rw [ht] at this
    rcases List.mem_append.1 this with h | h
    · have := hlt x h; omega
    · simp at h; omega
  have ha : ∀ x, N % x = 0 → x ≤ A[i] - 1 → x ∈ A.take i := fun x e1 e2 => by
    have := h3 x e1 (by omega)
    rw [ht] at this
    rcases List.mem_append.1 this with h | h
    · exact h
    · simp at h; omega
  have hb : ∀ x ∈ A.take i, x ≤ A[i] - 1 := fun x hx => by have := hlt x hx; omega
  refine ⟨by omega, fun hd => ?_, fun hd => ?_⟩
  · obtain ⟨r, hr, hh⟩ := hH.take hN hy hd
    exact ⟨r, hr, hh, by omega, ha, hb⟩
  · exact ⟨hH.skip hN fun _ h => hd h, by omega, ha, hb⟩
theorem Dn.fin {N d c : Nat} {A out rest : List Nat} (hN : 0 < N) (h : Dn N d A 0 c out rest) : out = divs N := by
  obtain ⟨h1, h2, h3, h4⟩ := h
  have := h1.down hN (Nat.zero_le c) fun x e1 e2 e3 _ => by have := h3 x e3 e2; simp at this
  exact (this.done hN).2
end Go.Pr
namespace Go.Proofs.YtifbcaiegalhbaaDoor
open Go Go.RowKit Go.Fl Go.Pr

set_option maxRecDepth 100000 in
set_option maxHeartbeats 4000000 in
theorem rDivisors_any (n : Int) (w : World) :
    Calls Tryd.prog 35 #[.int .i64 n] w fun e w' => ∃ v, e = .returned v ∧ IL w' w.heap.size v (divsI n) ∧ Kp w w' := by
  by_cases c1 : n < 1
  · have hf : divsI n = [] := divsI_out (Or.inl c1)
    rw [hf]
    have d1 : decide (n < 1) = true := by simpa using c1
    clear c1 hf
    go_enter Tryd.func35, Tryd.ntmps35
    go_wp2_with fail
    go_ret
    exact ⟨_, rfl, IL.nil w _, Kp.refl w⟩
  have d1 : decide (n < 1) = false := by simpa using c1
  by_cases c2 : 4294967296 < n
  · have hf : divsI n = [] := divsI_out (Or.inr c2)
    rw [hf]
    have d2 : decide (4294967296 < n) = true := by simpa using c2
    clear c1 c2 hf
    go_enter Tryd.func35, Tryd.ntmps35
    go_wp2_with fail
    go_ret
    exact ⟨_, rfl, IL.nil w _, Kp.refl w⟩
  have d2 : decide (4294967296 < n) = false := by simpa using c2
  obtain ⟨N, rfl⟩ := Int.eq_ofNat_of_zero_le (show 0 ≤ n by omega)
  rw [divsI_in (by omega)]
  have h1 : 1 ≤ N := by omega
  have h2 : N ≤ 4294967296 := by omega
  have hle := num_le (n := N) (by omega) h2
  have HL : Hid (∀ pre rest, pre ++ rest = divs N → pre.length ≤ 5000) := Lib.hid fun pre rest h => by
    unfold num at hle
    rw [← h, List.length_append] at hle
    omega
  have HS := Lib.hid (Lo.start N h1)
  clear c1 c2 hle
  obtain ⟨i0, hi, hz0, hz1, hz2⟩ := info_parts info_i
  have H0 := IL.nil w w.heap.size
  go_enter Tryd.func35, Tryd.ntmps35
  go_wp2_with fail
  go_loopw [3, 5] (fun v y wr => ∃ (pre rest : List Nat) (d : Nat), y = .int .i64 d ∧ 1 ≤ d ∧ d ≤ 65537 ∧ Hid ((d - 1) * (d - 1) ≤ N) ∧ Hid (Lo N d pre rest) ∧ IL wr w.heap.size v pre ∧ Kp w wr) (fun _ y _ => 65538 - (intOf y).toNat)
  case atStart => exact ⟨[], _, 1, rfl, by omega, by omega, Lib.hid (by show 0 * 0 ≤ N; omega), HS, H0, Kp.refl w⟩
  case round =>
    clear H0 HS
    obtain ⟨pre, rest, d, rfl, hd1, hd2, HQ, HLo, hIL, hk⟩ := hrel
    obtain ⟨P, hP⟩ : ∃ P, d * d = P := ⟨_, rfl⟩
    have hPb : P ≤ 4295098369 := by rw [← hP]; exact Nat.mul_le_mul hd2 hd2
    have e1 : IntKind.i64.wrap ((d : Int) * (d : Int)) = (P : Int) := by rw [← Int.natCast_mul, hP]; exact IntWalk.i64_in _ (by omega)
    have HPP := Lib.hid hP
    have hlen : pre.length ≤ 5000 := HL.out _ _ HLo.out.1
    clear hP
    by_cases hle : P ≤ N
    · have hp6 : d ≤ 65536 := by
        refine Nat.le_of_not_lt fun h => ?_
        have := Nat.mul_le_mul (show 65537 ≤ d from h) (show 65537 ≤ d from h)
        have := HPP.out
        omega
      have HQ' : Hid ((d + 1 - 1) * (d + 1 - 1) ≤ N) := Lib.hid (by rw [Nat.add_sub_cancel, HPP.out]; exact hle)
      have dP : decide ((P : Int) ≤ (N : Int)) = true := by simpa using hle
      by_cases hd : N % d = 0
      · obtain ⟨rest', hr, hlo⟩ := HLo.out.take h1 hd
        have HLo' := Lib.hid hlo
        have d3 : ((N : Int) % (d : Int) == 0) = true := by rw [← Int.natCast_emod, hd]; rfl
        clear hd hr hlo
        go_wp2_with (at_builtin; refine wpList_append_own _ rfl _ _ 44 rfl w.heap.size 3 i0 (.int .i64 0) 1 8 Tryd.underlying44 hi hz0 hz1 hz2 rfl (by decide) _ _ _ rfl (World.ownsRow.alloc hIL _) ⟨wr.heap.size, 0, none⟩ 1 1 [.int .i64 d] rfl rfl ?c1 ?c2 ?c3 ?c4 ?c5 ?_)
        case c1 => exact cell_one_new _ _ _
        case c2 => simp [Value.oneCell']
        case c3 => unfold maxLen; omega
        case c4 => omega
        case c5 => have := hk.size; simp; omega
        intro v' w5 hown5 hg _
        have hk5 : Kp w w5 := (hk.alloc _).grown hg (fun j hj => (World.ownsRow.lt hIL j hj).1)
        have hIL5 : IL w5 w.heap.size v' (pre ++ [d]) := by unfold IL; rw [ints_snoc, List.length_append]; exact hown5
        clear hown5 hg
        go_wp2_with fail
        go_roundw
        case rel => exact ⟨pre ++ [d], rest', d + 1, by go_num, by omega, by omega, HQ', HLo', hIL5, hk5⟩
        case measure => simp [intOf]; omega
      · have HLo' := Lib.hid (HLo.out.skip h1 hd)
        have d3 : ((N : Int) % (d : Int) == 0) = false := by rw [← Int.natCast_emod, beq_eq_false_iff_ne]; omega
        clear hd
        go_wp2_with fail
        go_roundw
        case rel => exact ⟨pre, rest, d + 1, by go_num, by omega, by omega, HQ', HLo', hIL, hk⟩
        case measure => simp [intOf]; omega
    · have dP : decide ((P : Int) ≤ (N : Int)) = false := by simp; omega
      have hDn := Lib.hid (Dn.start h1 hd1 HLo.out (by rw [HPP.out]; omega))
      have hne : 0 < pre.length := by
        refine Nat.pos_of_ne_zero fun h0 => ?_
        have h3 := HLo.out
        rw [List.length_eq_zero_iff.1 h0] at h3
        have h4 : 1 ∈ divs N := by rw [mem_divs h1]; exact Nat.one_dvd _
        rw [← h3.1] at h4
        have h5 := h3.2.2 1 (by simpa using h4)
        have h6 : d = 1 := by omega
        have h7 := HPP.out
        rw [h6] at h7
        omega
      have HU : Hid (∀ c, c < d → N % c = 0 → (d ≤ N / c ↔ c * c ≠ N)) := Lib.hid fun c hc h => up_iff2 h1 hd1 HQ.out hc h
      have HA : Hid (pre.Pairwise (· < ·)) := Lib.hid (by have := divs_sorted N; rw [← HLo.out.1, List.pairwise_append] at this; exact this.1)
      have HB : Hid (∀ x ∈ pre, N % x = 0 ∧ 0 < x) := Lib.hid fun x hx => by
        have h3 : x ∈ divs N := by rw [← HLo.out.1]; exact List.mem_append_left _ hx
        exact ⟨Nat.mod_eq_zero_of_dvd ((mem_divs h1).1 h3), (divs_le h1 h3).1⟩
      have HD : Hid (∀ x ∈ pre, x < d) := Lib.hid fun x hx => HLo.out.2.1 x hx
      obtain ⟨g, cap, rfl⟩ := IL.some hIL hne
      have HIL := Lib.hid hIL
      obtain ⟨k, hkk⟩ : ∃ k, pre.length = k := ⟨_, rfl⟩
      have HK := Lib.hid hkk
      rw [hkk] at hlen hne hDn ⊢
      clear HLo HPP HQ hkk hIL
      go_wp2_with (at_builtin; refine wpList_append_own _ rfl _ _ 44 rfl wr.heap.size 3 i0 (.int .i64 0) 1 8 Tryd.underlying44 hi hz0 hz1 hz2 rfl (by decide) _ _ _ rfl (World.ownsRow_nil _ _ _ _) ⟨g, 0, none⟩ k cap (ints pre) rfl ?c0 ?c1 ?c2 ?c3 ?c4 ?c5 ?_)
      case c0 => simp [ints, HK.out]
      case c1 =>
        intro j u hj
        have hjl : j < pre.length := by
          have := (List.getElem?_eq_some_iff.1 hj).1
          simpa [ints] using this
        have := IL.cell HIL.out j hjl
        rw [show ints pre = pre.map (fun (p : Nat) => Value.int .i64 (p : Int)) from rfl, List.getElem?_map, List.getElem?_eq_getElem hjl] at hj
        simp at hj
        subst hj
        cases j <;> simpa [Addr.add] using this
      case c2 => intro u hu; simp [ints] at hu; obtain ⟨p, _, rfl⟩ := hu; simp [Value.oneCell']
      case c3 => unfold maxLen; omega
      case c4 => omega
      case c5 => exact Nat.le_refl _
      intro v' w5 hown5 hg _
      have hk5 : Kp wr w5 := (Kp.refl wr).grown hg (fun j hj => by cases hj)
      have hIL5 : IL w5 wr.heap.size v' pre := by unfold IL; rw [HK.out]; simpa using hown5
      clear hown5 hg
      go_wp2_with fail
      clear e1 dP hPb hle
      obtain ⟨wo, hwo⟩ : ∃ wo : World, wo = wr := ⟨_, rfl⟩
      rw [← hwo] at hk5 hIL5 hk HIL
      clear hwo
      go_loopw [4, 6] (fun v x ws => ∃ (out rest : List Nat) (j c : Nat) (z : Int), x = .int .i64 z ∧ z + 1 = (j : Int) ∧ j ≤ k ∧ Hid (Dn N d pre j c out rest) ∧ IL ws wo.heap.size v out ∧ Kp wo ws) (fun _ x _ => (intOf x + 1).toNat)
      case atStart => exact ⟨pre, _, k, d - 1, (k : Int) - 1, by first | rfl | go_num, by omega, Nat.le_refl _, hDn, hIL5, hk5⟩
      case round =>
        clear hk5 hIL5 hDn
        obtain ⟨out, rest, j, c, z, rfl, hz, hjk, HDn, hIL6, hk6⟩ := hrel
        have hlen6 : out.length ≤ 5000 := HL.out _ _ HDn.out.1.1
        cases j with
        | zero =>
          obtain rfl : z = -1 := by omega
          have HX := Lib.hid (HDn.out.fin h1)
          go_wp2_with fail
          go_ret
          exact ⟨_, rfl, by rw [← HX.out]; exact hIL6.mono hk.size, hk.trans hk6⟩
        | succ i =>
          obtain rfl : z = (i : Int) := by omega
          have hik : i < k := by omega
          have hil : i < pre.length := by rw [HK.out]; exact hik
          have q1 := hk6.later (IL.cell HIL.out i hil)
          have hB := HB.out _ (List.getElem_mem hil)
          obtain ⟨s1, s2, s3⟩ := HDn.out.step h1 HA.out hil hB.1 hB.2
          have hU := HU.out _ s1 hB.1
          have hyd : pre[i] < d := s1
          obtain ⟨y, hy⟩ : ∃ y, pre[i] = y := ⟨_, rfl⟩
          rw [hy] at q1 s1 s2 s3 hB hU hyd
          obtain ⟨Q, hQ⟩ : ∃ Q, y * y = Q := ⟨_, rfl⟩
          have hQb : Q ≤ 4295098369 := by rw [← hQ]; exact Nat.mul_le_mul (show y ≤ 65537 by omega) (show y ≤ 65537 by omega)
          have e4 : IntKind.i64.wrap ((y : Int) * (y : Int)) = (Q : Int) := by rw [← Int.natCast_mul, hQ]; exact IntWalk.i64_in _ (by omega)
          have e4' : wrap64 ((y : Int) * (y : Int)) = (Q : Int) := by rw [← e4]; exact (IntWalk.i64_left _).symm
          rw [hQ] at hU
          have hy0 : 0 < y := hB.2
          obtain ⟨mm, hm⟩ : ∃ mm, N / y = mm := ⟨_, rfl⟩
          have hmN : mm ≤ N := by rw [← hm]; exact Nat.div_le_self _ _
          have e5 : IntKind.i64.wrap ((N : Int) / (y : Int)) = (mm : Int) := by rw [← Int.natCast_ediv, hm]; exact IntWalk.i64_in _ (by omega)
          rw [hm] at s2 s3 hU
          by_cases hq : Q = N
          · have HDn' := Lib.hid (s3 fun h => hU.1 h hq)
            have d5 : ((Q : Int) != (N : Int)) = false := by rw [hq]; simp
            clear s2 s3 hU hB hQ hm HDn s1 hy
            go_wp2_with fail
            go_quiet (fail)
            go_wp2_with fail
            go_roundw
            case rel => exact ⟨out, rest, i, y - 1, (i : Int) - 1, by first | rfl | go_num, by omega, by omega, HDn', hIL6.kp ((Kp.refl _).drewN nq), hk6.drewN nq⟩
            case measure => simp [intOf]
          · obtain ⟨rest', hr, hdn⟩ := s2 (hU.2 hq)
            have HDn' := Lib.hid hdn
            have d5 : ((Q : Int) != (N : Int)) = true := by rw [bne_iff_ne]; exact fun h => hq (Int.ofNat_inj.1 h)
            clear s2 s3 hU hB hQ hm HDn s1 hy hr hdn
            go_wp2_with fail
            go_quiet (fail)
            obtain ⟨w6, hw6⟩ : ∃ w6, wr.drewN nq = w6 := ⟨_, rfl⟩
            have hIL7 := hIL6.kp ((Kp.refl _).drewN nq)
            rw [hw6] at hIL7
            have hk7 : Kp wo w6 := by rw [← hw6]; exact hk6.drewN nq
            have q7 : w6.cell? ⟨g, i, none⟩ = some (.int .i64 (y : Int)) := by rw [← hw6]; exact ((Kp.refl _).drewN nq).later q1
            rw [hw6]
            clear hw6 q1 hIL6 hk6
            go_wp2_with (at_builtin; refine wpList_append_own _ rfl _ _ 44 rfl wo.heap.size 3 i0 (.int .i64 0) 1 8 Tryd.underlying44 hi hz0 hz1 hz2 rfl (by decide) _ _ _ rfl (World.ownsRow.alloc hIL7 _) ⟨w6.heap.size, 0, none⟩ 1 1 [.int .i64 mm] rfl rfl ?c1 ?c2 ?c3 ?c4 ?c5 ?_)
            case c1 => exact cell_one_new _ _ _
            case c2 => simp [Value.oneCell']
            case c3 => unfold maxLen; omega
            case c4 => omega
            case c5 => have := hk7.size; simp; omega
            intro v8 w8 hown8 hg8 _
            have hk8 : Kp wo w8 := (hk7.alloc _).grown hg8 (fun j hj => (World.ownsRow.lt hIL7 j hj).1)
            have hIL8 : IL w8 wo.heap.size v8 (out ++ [mm]) := by unfold IL; rw [ints_snoc, List.length_append]; exact hown8
            clear hown8 hg8
            go_wp2_with fail
            go_roundw
            case rel => exact ⟨out ++ [mm], rest', i, y - 1, (i : Int) - 1, by first | rfl | go_num, by omega, by omega, HDn', hIL8, hk8⟩
            case measure => simp [intOf]
end Go.Proofs.YtifbcaiegalhbaaDoor
