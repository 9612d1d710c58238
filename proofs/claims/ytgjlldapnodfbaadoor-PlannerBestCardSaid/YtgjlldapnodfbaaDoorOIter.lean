/-
  primes.Divisors and what it hands out, where a round keeps the number's box and may write what is older (PIter's text, by gen/oiter.py).
-/
import Derived.RangeFuncNested
import Derived.RangeFuncBound
import Derived.RangeFuncCalls
import Derived.RangeFuncLeaves
import Derived.RangeFuncBox
import Derived.Shelf.Abstract
import Derived.Shelf.RegionOpen
import Derived.WalkKit
import Derived.OwnWalkIn
import Derived.TacticsInMore
import Derived.LoopNIn
import Derived.LoopIn
import Derived.Maps.AppendAt
import Derived.Test.YtgjlldapnodfbaaDoorOSize
import Derived.Test.YtgjlldapnodfbaaDoorPDivs
namespace Go.Proofs.YtgjlldapnodfbaaDoor
open Go Go.RowKit Go.Shelf Go.Fl Go.Pr
attribute [local go_sem] Oper.semAt_some

/-- The number's box stays. -/
def Kc (b : Nat) (W W' : World) : Prop := W'.heap[b]? = W.heap[b]?
theorem kc_t {b : Nat} {A B C : World} (h : Kc b A B) (k : Kc b B C) : Kc b A C := Eq.trans k h
theorem kc_b {b : Nat} {w : World} (hb : b < w.heap.size) (W : World) (l : Nat) (o o' : Obj) (hl : w.heap.size ≤ l) (h : W.heap[l]? = some o) (h1 : o.isCells = false) (h2 : o.isWalk = false) : Kc b W (W.putObj l o') :=
  (belowK_b (n₀ := b + 1) (w := w) (by omega) W l o o' hl h h1 h2).block b (by omega)
set_option maxRecDepth 100000 in
set_option maxHeartbeats 4000000 in
/-- The iterator's function: for every loop body that keeps the box. -/
theorem div1_in (F : Fence) (n : Nat) (hf : F.fn 70) (hro : F.round = none) (hn : 1 ≤ n) (l Bn : Nat) (m : Int) (J Jx : List Nat → World → Prop)
    (hY : ∀ pre x W, J pre W → (pre ++ [x]) <+: divsI m → pre.length < 5000 → YieldAt F (n - 1) Tryd.prog l #[.int .i64 ((x : Nat) : Int)] W fun e W' =>
      (e = .returned (.bool true) ∧ J (pre ++ [x]) W' ∧ Kc Bn W W') ∨ (e = .returned (.bool false) ∧ Jx (pre ++ [x]) W'))
    (W : World) (hBn : W.cell? ⟨Bn, 0, none⟩ = some (.int .i64 m)) (h0 : J [] W) :
    CallsIn F n Tryd.prog 70 #[.func (.yield l) #[] #[], .pointer (some ⟨Bn, 0, none⟩)] W fun e W' => (∃ v, e = .returned v) ∧
      ((∃ ys, ys = divsI m ∧ J ys W') ∨ (∃ pre, pre <+: divsI m ∧ Jx pre W')) := by
  by_cases c1 : m < 1
  · have hf0 := divsI_out (n := m) (Or.inl c1)
    have HF := Lib.hid hf0
    have d1 : decide (m < 1) = true := by simpa using c1
    clear c1 hf0
    refine callsIn_of_wp Tryd.func70 rfl hf ?_ hro
    simp only [Tryd.ntmps70, List.size_toArray, List.length_cons, List.length_nil, Nat.reduceAdd, Nat.reduceSub, Array.replicate_succ, Array.replicate_zero, List.push_toArray, List.append_toArray, List.nil_append, List.cons_append]
    gi_wp2
    refine bodyPost_ret (results_none rfl _ _ _) rfl ?_
    exact ⟨⟨_, rfl⟩, .inl ⟨[], HF.out.symm, h0⟩⟩
  have d1 : decide (m < 1) = false := by simpa using c1
  by_cases c2 : 4294967296 < m
  · have hf0 := divsI_out (n := m) (Or.inr c2)
    have HF := Lib.hid hf0
    have d2 : decide (4294967296 < m) = true := by simpa using c2
    clear c1 c2 hf0
    refine callsIn_of_wp Tryd.func70 rfl hf ?_ hro
    simp only [Tryd.ntmps70, List.size_toArray, List.length_cons, List.length_nil, Nat.reduceAdd, Nat.reduceSub, Array.replicate_succ, Array.replicate_zero, List.push_toArray, List.append_toArray, List.nil_append, List.cons_append]
    gi_wp2
    refine bodyPost_ret (results_none rfl _ _ _) rfl ?_
    exact ⟨⟨_, rfl⟩, .inl ⟨[], HF.out.symm, h0⟩⟩
  have d2 : decide (4294967296 < m) = false := by simpa using c2
  obtain ⟨N, rfl⟩ := Int.eq_ofNat_of_zero_le (show 0 ≤ m by omega)
  have h1 : 1 ≤ N := by omega
  have h2 : N ≤ 4294967296 := by omega
  have hle := num_le (n := N) (by omega) h2
  have HL : Hid (∀ pre x rest, pre ++ x :: rest = divs N → pre.length < 5000) := Lib.hid fun pre x rest h => by
    unfold num at hle
    rw [← h, List.length_append, List.length_cons] at hle
    omega
  rw [divsI_in h2]
  have HS := Lib.hid (Lo.start N h1)
  clear c1 c2 hle
  refine callsIn_of_wp Tryd.func70 rfl hf ?_ hro
  simp only [Tryd.ntmps70, List.size_toArray, List.length_cons, List.length_nil, Nat.reduceAdd, Nat.reduceSub, Array.replicate_succ, Array.replicate_zero, List.push_toArray, List.append_toArray, List.nil_append, List.cons_append]
  gi_wp2
  gi_loopw [3] (fun x wr => ∃ (pre rest : List Nat) (d : Nat), x = .int .i64 d ∧ 1 ≤ d ∧ d ≤ 65537 ∧ Hid ((d - 1) * (d - 1) < N) ∧ Hid (Lo N d pre rest) ∧ wr.cell? ⟨Bn, 0, none⟩ = some (.int .i64 N) ∧ J pre wr) (fun x _ => 65538 - (intOf x).toNat)
  case atStart => exact ⟨[], _, 1, rfl, by omega, by omega, Lib.hid (by show 0 * 0 < N; omega), HS, hBn, h0⟩
  case round =>
    clear h0 hBn HS
    obtain ⟨pre, rest, d, rfl, hd1, hd2, HQ, HLo, hBn, hJ⟩ := hrel
    obtain ⟨P, hP⟩ : ∃ P, d * d = P := ⟨_, rfl⟩
    have hPb : P ≤ 4295098369 := by rw [← hP]; exact Nat.mul_le_mul hd2 hd2
    have e1 : IntKind.i64.wrap ((d : Int) * (d : Int)) = (P : Int) := by rw [← Int.natCast_mul, hP]; exact IntWalk.i64_in _ (by omega)
    have e2 : wrap64 ((d : Int) * (d : Int)) = (P : Int) := by rw [← e1]; exact (IntWalk.i64_left _).symm
    have HPP := Lib.hid hP
    clear hP
    by_cases hle : P < N
    · have hp6 : d ≤ 65536 := by
        refine Nat.le_of_not_lt fun h => ?_
        have := Nat.mul_le_mul (show 65537 ≤ d from h) (show 65537 ≤ d from h)
        have := HPP.out
        omega
      have HQ' : Hid ((d + 1 - 1) * (d + 1 - 1) < N) := Lib.hid (by rw [Nat.add_sub_cancel, HPP.out]; exact hle)
      have dP : decide ((P : Int) < (N : Int)) = true := by simpa using hle
      clear HQ HPP
      by_cases hd : N % d = 0
      · obtain ⟨rest', hr, hlo⟩ := HLo.out.take h1 hd
        have HLo' := Lib.hid hlo
        have hpl := HL.out pre d rest' (by rw [← hr]; exact HLo.out.1)
        have d3 : ((N : Int) % (d : Int) == 0) = true := by rw [← Int.natCast_emod, hd]; rfl
        have HPX : Hid (pre ++ [d] <+: divs N) := Lib.hid ⟨rest', hlo.1⟩
        clear hr hlo
        obtain ⟨fn, tmps, assign, body, hy, hR⟩ := hY pre d wr hJ (by rw [divsI_in h2]; exact HPX.out) hpl
        gi_wp2
        refine hR.mono ?_
        rintro e W3 (⟨rfl, hJ3, hk3⟩ | ⟨rfl, hJx3⟩)
        · have hB3 : W3.cell? ⟨Bn, 0, none⟩ = some (.int .i64 N) := (World.cell?_of_block (a := ⟨Bn, 0, none⟩) hk3).trans hBn
          gi_wp2
          go_roundw
          case rel => exact ⟨pre ++ [d], rest', d + 1, by go_num, by omega, by omega, HQ', HLo', hB3, hJ3⟩
          case measure => simp [intOf]; omega
        · gi_wp2
          refine bodyPost_ret (results_none rfl _ _ _) rfl ?_
          exact ⟨⟨_, rfl⟩, .inr ⟨pre ++ [d], HPX.out, hJx3⟩⟩
      · have HLo' := Lib.hid (HLo.out.skip h1 hd)
        have d3 : ((N : Int) % (d : Int) == 0) = false := by rw [← Int.natCast_emod, beq_eq_false_iff_ne]; omega
        clear HLo
        gi_wp2
        refine ⟨fun _ h => (by cases h), ?_⟩
        gi_wp2
        go_roundw
        case rel => exact ⟨pre, rest, d + 1, by go_num, by omega, by omega, HQ', HLo', hBn, hJ⟩
        case measure => simp [intOf]; omega
    · have dP : decide ((P : Int) < (N : Int)) = false := by simp; omega
      have HH : Hid (Hi N d d pre rest) := Lib.hid (HLo.out.hi fun x hx => by
        have h3 := HPP.out
        have h4 : d * d ≤ d * x := Nat.mul_le_mul_left d hx
        exact Nat.div_le_of_le_mul (by have := Nat.mul_comm x d; clear e1 e2; omega))
      have HU : Hid (∀ c, c ≤ d → N % c = 0 → (d ≤ N / c ↔ c ≤ N / c)) := Lib.hid fun c hc h => up_iff h1 (by omega) HQ.out hc h
      clear HQ HPP HLo
      gi_wp2
      obtain ⟨wo, hwo⟩ : ∃ wo : World, wo = wr := ⟨_, rfl⟩
      rw [← hwo] at hBn hJ ⊢
      clear hwo wr e1 e2 hle dP hPb
      gi_loopw [3] (fun x wr => ∃ (pre rest : List Nat) (c : Nat), x = .int .i64 c ∧ c ≤ d ∧ Hid (Hi N d c pre rest) ∧ wr.cell? ⟨Bn, 0, none⟩ = some (.int .i64 N) ∧ J pre wr) (fun x _ => (intOf x).toNat)
      case atStart => exact ⟨pre, rest, d, rfl, by omega, HH, hBn, hJ⟩
      case round =>
        clear hBn hJ HH
        obtain ⟨pre, rest, c, rfl, hcd, HH, hBn, hJ⟩ := hrel
        by_cases hc : 0 < c
        · have dc : decide ((0 : Int) < (c : Int)) = true := by simpa using hc
          by_cases hd : N % c = 0
          · have d3 : ((N : Int) % (c : Int) == 0) = true := by rw [← Int.natCast_emod, hd]; rfl
            obtain ⟨q, hq⟩ : ∃ q, N / c = q := ⟨_, rfl⟩
            have hqN : q ≤ N := by rw [← hq]; exact Nat.div_le_self _ _
            have e3 : wrap64 ((N : Int) / (c : Int)) = (q : Int) := by rw [← Int.natCast_ediv, hq, ← IntWalk.i64_left]; exact IntWalk.i64_in _ (by omega)
            have HQ2 := Lib.hid hq
            have hiff := HU.out c hcd hd
            rw [hq] at hiff
            by_cases hge : c ≤ q
            · have d4 : decide ((c : Int) ≤ (q : Int)) = true := by simpa using hge
              obtain ⟨rest', hr, hhi⟩ := HH.out.take h1 hd (by rw [hq]; exact hiff.2 hge)
              rw [hq] at hr hhi
              have HH' := Lib.hid hhi
              have hpl := HL.out pre q rest' (by rw [← hr]; exact HH.out.1)
              have HPX : Hid (pre ++ [q] <+: divs N) := Lib.hid ⟨rest', hhi.1⟩
              clear hr hhi hq hiff
              obtain ⟨fn, tmps, assign, body, hy, hR⟩ := hY pre q wr hJ (by rw [divsI_in h2]; exact HPX.out) hpl
              gi_wp2
              refine hR.mono ?_
              rintro e W3 (⟨rfl, hJ3, hk3⟩ | ⟨rfl, hJx3⟩)
              · have hB3 : W3.cell? ⟨Bn, 0, none⟩ = some (.int .i64 N) := (World.cell?_of_block (a := ⟨Bn, 0, none⟩) hk3).trans hBn
                gi_wp2
                go_roundw
                case rel => exact ⟨pre ++ [q], rest', c - 1, by rw [show ((c : Int) - 1) = ((c - 1 : Nat) : Int) by omega], by omega, HH', hB3, hJ3⟩
                case measure => simp [intOf]; omega
              · gi_wp2
                refine bodyPost_ret (results_none rfl _ _ _) rfl ?_
                exact ⟨⟨_, rfl⟩, .inr ⟨pre ++ [q], HPX.out, hJx3⟩⟩
            · have d4 : decide ((c : Int) ≤ (q : Int)) = false := by simp; omega
              have HH' := Lib.hid (HH.out.skip h1 fun _ h => hge (by rw [hq] at h; exact hiff.1 h))
              clear HH hq hiff
              gi_wp2
              refine ⟨fun _ h => (by cases h), ?_⟩
              gi_wp2
              go_roundw
              case rel => exact ⟨pre, rest, c - 1, by rw [show ((c : Int) - 1) = ((c - 1 : Nat) : Int) by omega], by omega, HH', hBn, hJ⟩
              case measure => simp [intOf]; omega
          · have d3 : ((N : Int) % (c : Int) == 0) = false := by rw [← Int.natCast_emod, beq_eq_false_iff_ne]; omega
            have HH' := Lib.hid (HH.out.skip h1 fun h _ => hd h)
            clear HH
            gi_wp2
            refine ⟨fun _ h => (by cases h), ?_⟩
            gi_wp2
            go_roundw
            case rel => exact ⟨pre, rest, c - 1, by rw [show ((c : Int) - 1) = ((c - 1 : Nat) : Int) by omega], by omega, HH', hBn, hJ⟩
            case measure => simp [intOf]; omega
        · obtain rfl : c = 0 := by omega
          have HD := Lib.hid (HH.out.done h1).2
          clear HH
          gi_wp2
          go_end0
          exact ⟨⟨_, rfl⟩, .inl ⟨pre, HD.out, hJ⟩⟩
set_option maxHeartbeats 1000000 in
/-- primes.Divisors: the number is boxed; the function value captures the box. -/
theorem div_in (F : Fence) (n : Nat) (hf : F.fn 47) (hro : F.round = none) (m : Int) (w : World) :
    CallsIn F n Tryd.prog 47 #[.int .i64 m] w fun e w' => e = .returned (.func (.func 70) #[] #[.pointer (some ⟨w.heap.size, 0, none⟩)]) ∧ w' = w.alloc (.cells #[.int .i64 m] 3) := by
  refine callsIn_of_wp Tryd.func47 rfl hf ?_ hro
  simp only [Tryd.ntmps47, List.size_toArray, List.length_cons, List.length_nil, Nat.reduceAdd, Nat.reduceSub, Array.replicate_succ, Array.replicate_zero, List.push_toArray, List.append_toArray, List.nil_append, List.cons_append]
  gi_wp2
  go_ret
  exact ⟨rfl, rfl⟩
abbrev DivOf (N : Nat) := { x : Nat // x ∈ divs N }
/-- What Divisors hands out tells all divisors, or, where a round has said 'no more', a part; a round knows that it is handed a divisor. -/
theorem div_stops (F : Fence) (n : Nat) (hf : F.fn 70) (hro : F.round = none) (hn : 1 ≤ n) (Bn N : Nat) (hN : N ≤ 4294967296) (w : World) (hB : Bn < w.heap.size) (hc : w.cell? ⟨Bn, 0, none⟩ = some (.int .i64 N)) :
    SeqStopsK F n Tryd.prog 70 #[.pointer (some ⟨Bn, 0, none⟩)] (fun x : DivOf N => #[Value.int .i64 ((x.1 : Nat) : Int)]) (Kc Bn) (fun ys => ys.map (·.1) = divs N) (fun pre => pre.map (·.1) <+: divs N) 5000 w := fun l J Jx W hW _ _ hY h0 => by
  have h := div1_in F n hf hro hn l Bn (N : Int) (fun pre W => ∃ l : List (DivOf N), l.map (·.1) = pre ∧ J l W) (fun pre W => ∃ l : List (DivOf N), l.map (·.1) = pre ∧ Jx l W) ?_ W ((hW.cell (p := ⟨Bn, 0, none⟩) hB).trans hc) ⟨[], rfl, h0⟩
  · refine CallsIn.mono h ?_
    rintro e w' ⟨h1, h2⟩
    refine ⟨h1, ?_⟩
    rw [divsI_in hN] at h2
    rcases h2 with ⟨ys, rfl, l, h3, h4⟩ | ⟨pre, hp, l, rfl, h4⟩
    · exact .inl ⟨l, h3, h4⟩
    · exact .inr ⟨l, hp, h4⟩
  · rintro pre x W1 ⟨l1, rfl, hJ⟩ hx hl
    rw [divsI_in hN] at hx
    have hx1 : x ∈ divs N := hx.subset (List.mem_append_right _ (List.mem_singleton.2 rfl))
    refine YieldAt.mono (hY l1 ⟨x, hx1⟩ W1 hJ (by simpa using hl)) ?_
    rintro e W' (⟨rfl, h1, h2⟩ | ⟨rfl, h1⟩)
    · exact .inl ⟨rfl, ⟨l1 ++ [⟨x, hx1⟩], by simp, h1⟩, h2⟩
    · exact .inr ⟨rfl, ⟨l1 ++ [⟨x, hx1⟩], by simp, h1⟩⟩
end Go.Proofs.YtgjlldapnodfbaaDoor
