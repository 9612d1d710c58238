/-
  The walk of primes.Divisors and of what it hands out: all divisors, rising; or a part of them, where a round has said 'no more'.
-/
import Derived.RangeFuncNested
import Derived.RangeFuncBound
import Derived.RangeFuncCalls
import Derived.RangeFuncLeaves
import Derived.RangeFuncBox
import Derived.Shelf.Abstract
import Derived.Shelf.RegionOpen
import Derived.WalkKit
import Derived.OwnWalkIn
import Derived.TacticsInMore
import Derived.LoopNIn
import Derived.LoopIn
import Derived.Maps.AppendAt
import Derived.Test.YtifbcaiegalhbaaDoorPFac
import Derived.Test.YtifbcaiegalhbaaDoorPDivs
namespace Go.Proofs.YtifbcaiegalhbaaDoor
open Go Go.RowKit Go.Shelf Go.Fl Go.Pr
attribute [local go_sem] Oper.semAt_some

set_option maxRecDepth 100000 in
set_option maxHeartbeats 4000000 in
/-- The iterator's function: for every loop body that keeps what lay below n₀. -/
theorem div1_in (F : Fence) (n : Nat) (hf : F.fn 47) (hro : F.round = none) (hn : 1 ≤ n) (l Bn n₀ : Nat) (hB : Bn < n₀) (m : Int) (J Jx : List Nat → World → Prop)
    (hY : ∀ pre x W, J pre W → pre.length < 5000 → YieldAt F (n - 1) Tryd.prog l #[.int .i64 ((x : Nat) : Int)] W fun e W' =>
      (e = .returned (.bool true) ∧ J (pre ++ [x]) W' ∧ Below n₀ W W') ∨ (e = .returned (.bool false) ∧ Jx (pre ++ [x]) W'))
    (W : World) (hBn : W.cell? ⟨Bn, 0, none⟩ = some (.int .i64 m)) (h0 : J [] W) :
    CallsIn F n Tryd.prog 47 #[.func (.yield l) #[] #[], .pointer (some ⟨Bn, 0, none⟩)] W fun e W' => (∃ v, e = .returned v) ∧
      ((∃ ys, ys = divsI m ∧ J ys W') ∨ (∃ pre, pre <+: divsI m ∧ Jx pre W')) := by
  by_cases c1 : m < 1
  · have hf0 := divsI_out (n := m) (Or.inl c1)
    have HF := Lib.hid hf0
    have d1 : decide (m < 1) = true := by simpa using c1
    clear c1 hf0
    refine callsIn_of_wp Tryd.func47 rfl hf ?_ hro
    simp only [Tryd.ntmps47, List.size_toArray, List.length_cons, List.length_nil, Nat.reduceAdd, Nat.reduceSub, Array.replicate_succ, Array.replicate_zero, List.push_toArray, List.append_toArray, List.nil_append, List.cons_append]
    gi_wp2
    refine bodyPost_ret (results_none rfl _ _ _) rfl ?_
    exact ⟨⟨_, rfl⟩, .inl ⟨[], HF.out.symm, h0⟩⟩
  have d1 : decide (m < 1) = false := by simpa using c1
  by_cases c2 : 4294967296 < m
  · have hf0 := divsI_out (n := m) (Or.inr c2)
    have HF := Lib.hid hf0
    have d2 : decide (4294967296 < m) = true := by simpa using c2
    clear c1 c2 hf0
    refine callsIn_of_wp Tryd.func47 rfl hf ?_ hro
    simp only [Tryd.ntmps47, List.size_toArray, List.length_cons, List.length_nil, Nat.reduceAdd, Nat.reduceSub, Array.replicate_succ, Array.replicate_zero, List.push_toArray, List.append_toArray, List.nil_append, List.cons_append]
    gi_wp2
    refine bodyPost_ret (results_none rfl _ _ _) rfl ?_
    exact ⟨⟨_, rfl⟩, .inl ⟨[], HF.out.symm, h0⟩⟩
  have d2 : decide (4294967296 < m) = false := by simpa using c2
  obtain ⟨N, rfl⟩ := Int.eq_ofNat_of_zero_le (show 0 ≤ m by omega)
  have h1 : 1 ≤ N := by omega
  have h2 : N ≤ 4294967296 := by omega
  have hle := num_le (n := N) (by omega) h2
  have HL : Hid (∀ pre x rest, pre ++ x :: rest = divs N → pre.length < 5000) := Lib.hid fun pre x rest h => by
    unfold num at hle
    rw [← h, List.length_append, List.length_cons] at hle
    omega
  rw [divsI_in h2]
  have HS := Lib.hid (Lo.start N h1)
  clear c1 c2 hle
  refine callsIn_of_wp Tryd.func47 rfl hf ?_ hro
  simp only [Tryd.ntmps47, List.size_toArray, List.length_cons, List.length_nil, Nat.reduceAdd, Nat.reduceSub, Array.replicate_succ, Array.replicate_zero, List.push_toArray, List.append_toArray, List.nil_append, List.cons_append]
  gi_wp2
  gi_loopw [3] (fun x wr => ∃ (pre rest : List Nat) (d : Nat), x = .int .i64 d ∧ 1 ≤ d ∧ d ≤ 65537 ∧ Hid ((d - 1) * (d - 1) < N) ∧ Hid (Lo N d pre rest) ∧ wr.cell? ⟨Bn, 0, none⟩ = some (.int .i64 N) ∧ J pre wr) (fun x _ => 65538 - (intOf x).toNat)
  case atStart => exact ⟨[], _, 1, rfl, by omega, by omega, Lib.hid (by show 0 * 0 < N; omega), HS, hBn, h0⟩
  case round =>
    clear h0 hBn HS
    obtain ⟨pre, rest, d, rfl, hd1, hd2, HQ, HLo, hBn, hJ⟩ := hrel
    obtain ⟨P, hP⟩ : ∃ P, d * d = P := ⟨_, rfl⟩
    have hPb : P ≤ 4295098369 := by rw [← hP]; exact Nat.mul_le_mul hd2 hd2
    have e1 : IntKind.i64.wrap ((d : Int) * (d : Int)) = (P : Int) := by rw [← Int.natCast_mul, hP]; exact IntWalk.i64_in _ (by omega)
    have e2 : wrap64 ((d : Int) * (d : Int)) = (P : Int) := by rw [← e1]; exact (IntWalk.i64_left _).symm
    have HPP := Lib.hid hP
    clear hP
    by_cases hle : P < N
    · have hp6 : d ≤ 65536 := by
        refine Nat.le_of_not_lt fun h => ?_
        have := Nat.mul_le_mul (show 65537 ≤ d from h) (show 65537 ≤ d from h)
        have := HPP.out
        omega
      have HQ' : Hid ((d + 1 - 1) * (d + 1 - 1) < N) := Lib.hid (by rw [Nat.add_sub_cancel, HPP.out]; exact hle)
      have dP : decide ((P : Int) < (N : Int)) = true := by simpa using hle
      clear HQ HPP
      by_cases hd : N % d = 0
      · obtain ⟨rest', hr, hlo⟩ := HLo.out.take h1 hd
        have HLo' := Lib.hid hlo
        have hpl := HL.out pre d rest' (by rw [← hr]; exact HLo.out.1)
        have d3 : ((N : Int) % (d : Int) == 0) = true := by rw [← Int.natCast_emod, hd]; rfl
        have HPX : Hid (pre ++ [d] <+: divs N) := Lib.hid ⟨rest', hlo.1⟩
        clear hr hlo
        obtain ⟨fn, tmps, assign, body, hy, hR⟩ := hY pre d wr hJ hpl
        gi_wp2
        refine hR.mono ?_
        rintro e W3 (⟨rfl, hJ3, hk3⟩ | ⟨rfl, hJx3⟩)
        · have hB3 : W3.cell? ⟨Bn, 0, none⟩ = some (.int .i64 N) := (hk3.cell (p := ⟨Bn, 0, none⟩) hB).trans hBn
          gi_wp2
          go_roundw
          case rel => exact ⟨pre ++ [d], rest', d + 1, by go_num, by omega, by omega, HQ', HLo', hB3, hJ3⟩
          case measure => simp [intOf]; omega
        · gi_wp2
          refine bodyPost_ret (results_none rfl _ _ _) rfl ?_
          exact ⟨⟨_, rfl⟩, .inr ⟨pre ++ [d], HPX.out, hJx3⟩⟩
      · have HLo' := Lib.hid (HLo.out.skip h1 hd)
        have d3 : ((N : Int) % (d : Int) == 0) = false := by rw [← Int.natCast_emod, beq_eq_false_iff_ne]; omega
        clear HLo
        gi_wp2
        refine ⟨fun _ h => (by cases h), ?_⟩
        gi_wp2
        go_roundw
        case rel => exact ⟨pre, rest, d + 1, by go_num, by omega, by omega, HQ', HLo', hBn, hJ⟩
        case measure => simp [intOf]; omega
    · have dP : decide ((P : Int) < (N : Int)) = false := by simp; omega
      have HH : Hid (Hi N d d pre rest) := Lib.hid (HLo.out.hi fun x hx => by
        have h3 := HPP.out
        have h4 : d * d ≤ d * x := Nat.mul_le_mul_left d hx
        exact Nat.div_le_of_le_mul (by have := Nat.mul_comm x d; clear e1 e2; omega))
      have HU : Hid (∀ c, c ≤ d → N % c = 0 → (d ≤ N / c ↔ c ≤ N / c)) := Lib.hid fun c hc h => up_iff h1 (by omega) HQ.out hc h
      clear HQ HPP HLo
      gi_wp2
      obtain ⟨wo, hwo⟩ : ∃ wo : World, wo = wr := ⟨_, rfl⟩
      rw [← hwo] at hBn hJ ⊢
      clear hwo wr e1 e2 hle dP hPb
      gi_loopw [3] (fun x wr => ∃ (pre rest : List Nat) (c : Nat), x = .int .i64 c ∧ c ≤ d ∧ Hid (Hi N d c pre rest) ∧ wr.cell? ⟨Bn, 0, none⟩ = some (.int .i64 N) ∧ J pre wr) (fun x _ => (intOf x).toNat)
      case atStart => exact ⟨pre, rest, d, rfl, by omega, HH, hBn, hJ⟩
      case round =>
        clear hBn hJ HH
        obtain ⟨pre, rest, c, rfl, hcd, HH, hBn, hJ⟩ := hrel
        by_cases hc : 0 < c
        · have dc : decide ((0 : Int) < (c : Int)) = true := by simpa using hc
          by_cases hd : N % c = 0
          · have d3 : ((N : Int) % (c : Int) == 0) = true := by rw [← Int.natCast_emod, hd]; rfl
            obtain ⟨q, hq⟩ : ∃ q, N / c = q := ⟨_, rfl⟩
            have hqN : q ≤ N := by rw [← hq]; exact Nat.div_le_self _ _
            have e3 : wrap64 ((N : Int) / (c : Int)) = (q : Int) := by rw [← Int.natCast_ediv, hq, ← IntWalk.i64_left]; exact IntWalk.i64_in _ (by omega)
            have HQ2 := Lib.hid hq
            have hiff := HU.out c hcd hd
            rw [hq] at hiff
            by_cases hge : c ≤ q
            · have d4 : decide ((c : Int) ≤ (q : Int)) = true := by simpa using hge
              obtain ⟨rest', hr, hhi⟩ := HH.out.take h1 hd (by rw [hq]; exact hiff.2 hge)
              rw [hq] at hr hhi
              have HH' := Lib.hid hhi
              have hpl := HL.out pre q rest' (by rw [← hr]; exact HH.out.1)
              have HPX : Hid (pre ++ [q] <+: divs N) := Lib.hid ⟨rest', hhi.1⟩
              clear hr hhi hq hiff
              obtain ⟨fn, tmps, assign, body, hy, hR⟩ := hY pre q wr hJ hpl
              gi_wp2
              refine hR.mono ?_
              rintro e W3 (⟨rfl, hJ3, hk3⟩ | ⟨rfl, hJx3⟩)
              · have hB3 : W3.cell? ⟨Bn, 0, none⟩ = some (.int .i64 N) := (hk3.cell (p := ⟨Bn, 0, none⟩) hB).trans hBn
                gi_wp2
                go_roundw
                case rel => exact ⟨pre ++ [q], rest', c - 1, by rw [show ((c : Int) - 1) = ((c - 1 : Nat) : Int) by omega], by omega, HH', hB3, hJ3⟩
                case measure => simp [intOf]; omega
              · gi_wp2
                refine bodyPost_ret (results_none rfl _ _ _) rfl ?_
                exact ⟨⟨_, rfl⟩, .inr ⟨pre ++ [q], HPX.out, hJx3⟩⟩
            · have d4 : decide ((c : Int) ≤ (q : Int)) = false := by simp; omega
              have HH' := Lib.hid (HH.out.skip h1 fun _ h => hge (by rw [hq] at h; exact hiff.1 h))
              clear HH hq hiff
              gi_wp2
              refine ⟨fun _ h => (by cases h), ?_⟩
              gi_wp2
              go_roundw
              case rel => exact ⟨pre, rest, c - 1, by rw [show ((c : Int) - 1) = ((c - 1 : Nat) : Int) by omega], by omega, HH', hBn, hJ⟩
              case measure => simp [intOf]; omega
          · have d3 : ((N : Int) % (c : Int) == 0) = false := by rw [← Int.natCast_emod, beq_eq_false_iff_ne]; omega
            have HH' := Lib.hid (HH.out.skip h1 fun h _ => hd h)
            clear HH
            gi_wp2
            refine ⟨fun _ h => (by cases h), ?_⟩
            gi_wp2
            go_roundw
            case rel => exact ⟨pre, rest, c - 1, by rw [show ((c : Int) - 1) = ((c - 1 : Nat) : Int) by omega], by omega, HH', hBn, hJ⟩
            case measure => simp [intOf]; omega
        · obtain rfl : c = 0 := by omega
          have HD := Lib.hid (HH.out.done h1).2
          clear HH
          gi_wp2
          go_end0
          exact ⟨⟨_, rfl⟩, .inl ⟨pre, HD.out, hJ⟩⟩
set_option maxHeartbeats 1000000 in
/-- primes.Divisors: the number is boxed; the function value captures the box. -/
theorem div_in (F : Fence) (n : Nat) (hf : F.fn 37) (hro : F.round = none) (m : Int) (w : World) :
    CallsIn F n Tryd.prog 37 #[.int .i64 m] w fun e w' => e = .returned (.func (.func 47) #[] #[.pointer (some ⟨w.heap.size, 0, none⟩)]) ∧ w' = w.alloc (.cells #[.int .i64 m] 3) := by
  refine callsIn_of_wp Tryd.func37 rfl hf ?_ hro
  simp only [Tryd.ntmps37, List.size_toArray, List.length_cons, List.length_nil, Nat.reduceAdd, Nat.reduceSub, Array.replicate_succ, Array.replicate_zero, List.push_toArray, List.append_toArray, List.nil_append, List.cons_append]
  gi_wp2
  go_ret
  exact ⟨rfl, rfl⟩
/-- What Divisors hands out tells all divisors, or, where a round has said 'no more', a part. -/
theorem div_stops (F : Fence) (n : Nat) (hf : F.fn 47) (hro : F.round = none) (hn : 1 ≤ n) (Bn n₀ : Nat) (m : Int) (w : World) (hB : Bn < n₀) (hn₀ : n₀ ≤ w.heap.size) (hc : w.cell? ⟨Bn, 0, none⟩ = some (.int .i64 m)) :
    SeqStopsK F n Tryd.prog 47 #[.pointer (some ⟨Bn, 0, none⟩)] (fun x : Nat => #[Value.int .i64 (x : Int)]) (Below n₀) (fun ys => ys = divsI m) (fun pre => pre <+: divsI m) 5000 w := fun l J Jx W hW _ _ hY h0 =>
  div1_in F n hf hro hn l Bn n₀ hB m J Jx hY W ((hW.cell (p := ⟨Bn, 0, none⟩) (by show Bn < _; omega)).trans hc) h0
end Go.Proofs.YtifbcaiegalhbaaDoor
