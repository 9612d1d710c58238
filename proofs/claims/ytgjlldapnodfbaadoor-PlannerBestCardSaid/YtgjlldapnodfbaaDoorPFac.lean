/-
  The walks of Prime and Factors, and of the references' own; lists of whole numbers.
-/
import Derived.Test.YtgjlldapnodfbaaDoorPGcd
import Derived.Maps.AppendAt
namespace Go.Proofs.YtgjlldapnodfbaaDoor
open Go Go.RowKit Go.Fl Go.Pr

theorem info_i : (Tryd.prog.info? 3).map (fun i => (i.zero, i.size, i.bytes)) = some (some (.int .i64 0), 1, 8) := by kernel_rfl
/-- A list of numbers in memory of the call's own. -/
abbrev ints (l : List Nat) : List Value := l.map fun (p : Nat) => Value.int .i64 (p : Int)
def IL (w : World) (base : Nat) (v : Value) (l : List Nat) : Prop := w.ownsRow base 3 1 v l.length (ints l)
theorem IL.kp {w w' : World} {base : Nat} {v : Value} {l : List Nat} (h : IL w base v l) (k : Kp w w') : IL w' base v l := k.owns h
theorem IL.mono {w : World} {base base' : Nat} {v : Value} {l : List Nat} (h : IL w base v l) (hb : base' ≤ base) : IL w base' v l := owns_mono h hb
theorem IL.nil (w : World) (base : Nat) : IL w base (.slice none 0 0) [] := ⟨rfl, .inl ⟨rfl, rfl⟩⟩
theorem IL.cell {w : World} {base g cap : Nat} {l : List Nat} (h : IL w base (.slice (some ⟨g, 0, none⟩) l.length cap) l) (i : Nat) (hi : i < l.length) : w.cell? ⟨g, i, none⟩ = some (.int .i64 (l[i] : Nat)) := by
  have := World.ownsRow.cellAt (h : w.ownsRow base 3 1 _ l.length (ints l)) i (by simpa using hi)
  rw [this]
  simp [ints, hi]
theorem IL.form {w : World} {base : Nat} {v : Value} {l : List Nat} (h : IL w base v l) : ∃ o c, v = .slice o l.length c := by
  rcases h.2 with ⟨rfl, h2⟩ | ⟨g, cap, cur, hv, _⟩
  · exact ⟨_, 0, by rw [h2]⟩
  · exact ⟨_, cap, hv⟩
theorem IL.some {w : World} {base : Nat} {v : Value} {l : List Nat} (h : IL w base v l) (hn : 0 < l.length) : ∃ g c, v = .slice (some ⟨g, 0, none⟩) l.length c := by
  obtain ⟨g, cap, e⟩ := owns_form h hn
  exact ⟨g, cap, e⟩
theorem facts_length (n : Nat) : (facts n).length ≤ n := by
  refine facts_ind (fun n l => l.length ≤ n) (fun n hn => by simp) (fun n hn ih => ?_) n
  have := div_lt hn
  simp; omega

def primeB (n : Int) : Bool := decide (2 ≤ n ∧ n ≤ 4294967296 ∧ Pri n.toNat)
theorem primeB_out {n : Int} (h : n < 2 ∨ 4294967296 < n) : primeB n = false := by unfold primeB; simp; omega
theorem primeB_in {n : Nat} (h1 : 2 ≤ n) (h2 : n ≤ 4294967296) : primeB n = decide (Pri n) := by
  unfold primeB
  rw [decide_eq_decide, Int.toNat_natCast]
  exact ⟨fun h => h.2.2, fun h => ⟨by omega, by omega, h⟩⟩
/-- What Factors answers. -/
def factsI (n : Int) : List Nat := if 4294967296 < n then [] else facts n.toNat
theorem facts_pull {n p : Nat} (hp : 2 ≤ p) (hd : n % p = 0) (hn : 0 < n) (hno : ∀ q, 2 ≤ q → q < p → ¬ q ∣ n) : facts n = p :: facts (n / p) ∧ 0 < n / p ∧ n / p < n ∧ ∀ q, 2 ≤ q → q < p → ¬ q ∣ n / p := by
  have h := Nat.dvd_of_mod_eq_zero hd
  refine ⟨facts_cons hp h hno hn, Nat.div_pos (Nat.le_of_dvd hn h) (by omega), Nat.div_lt_self hn hp, fun q h1 h2 h3 => hno q h1 h2 (Nat.dvd_trans h3 (Nat.div_dvd_of_dvd h))⟩
theorem ints_snoc (l : List Nat) (p : Nat) : ints (l ++ [p]) = ints l ++ [Value.int .i64 (p : Int)] := by simp [ints]
set_option maxRecDepth 100000 in
set_option maxHeartbeats 2000000 in
theorem Factors_any (n : Int) (w : World) :
    Calls Tryd.prog 73 #[.int .i64 n] w fun e w' => ∃ v, e = .returned v ∧ IL w' w.heap.size v (factsI n) ∧ Kp w w' := by
  by_cases c1 : n < 2
  · have hf : factsI n = [] := by unfold factsI; rw [if_neg (by omega), facts_small (by omega)]
    rw [hf]
    have d1 : decide (n < 2) = true := by simpa using c1
    clear c1 hf
    go_enter Tryd.func73, Tryd.ntmps73
    go_wp2_with fail
    go_ret
    exact ⟨_, rfl, IL.nil w _, Kp.refl w⟩
  have d1 : decide (n < 2) = false := by simpa using c1
  by_cases c2 : 4294967296 < n
  · have hf : factsI n = [] := by unfold factsI; rw [if_pos c2]
    rw [hf]
    have d2 : decide (4294967296 < n) = true := by simpa using c2
    clear c1 c2 hf
    go_enter Tryd.func73, Tryd.ntmps73
    go_wp2_with fail
    go_ret
    exact ⟨_, rfl, IL.nil w _, Kp.refl w⟩
  have d2 : decide (4294967296 < n) = false := by simpa using c2
  obtain ⟨N, rfl⟩ := Int.eq_ofNat_of_zero_le (show 0 ≤ n by omega)
  have hf : factsI N = facts N := by unfold factsI; rw [if_neg c2]; rfl
  rw [hf]
  have h2 : 2 ≤ N := by omega
  have h3 : N ≤ 4294967296 := by omega
  have hL := facts_length N
  obtain ⟨FL, hFL⟩ : ∃ l, facts N = l := ⟨_, rfl⟩
  rw [hFL] at hL ⊢
  have HFL := Lib.hid hFL
  clear c1 c2 hf hFL
  obtain ⟨i0, hi, hz0, hz1, hz2⟩ := info_parts info_i
  have H0 := IL.nil w w.heap.size
  go_enter Tryd.func73, Tryd.ntmps73
  go_wp2_with fail
  go_loopw [0, 3, 4] (fun x v y wr => ∃ (n p : Nat) (l : List Nat), x = .int .i64 n ∧ y = .int .i64 p ∧ 0 < n ∧ n ≤ 4294967296 ∧ 2 ≤ p ∧ p ≤ 65537 ∧ l.length + (facts n).length ≤ 4294967296 ∧ IL wr w.heap.size v l ∧ Hid (FL = l ++ facts n) ∧ Hid (∀ q, 2 ≤ q → q < p → ¬ q ∣ n) ∧ Kp w wr) (fun _ _ y _ => 65538 - (intOf y).toNat)
  case atStart => exact ⟨N, 2, [], rfl, rfl, by omega, h3, by omega, by omega, by simp; have := facts_length N; omega, H0, Lib.hid (by rw [← HFL.out]; rfl), Lib.hid fun q h1 h2 => by omega, Kp.refl w⟩
  case round =>
    clear H0
    obtain ⟨n, p, l, rfl, rfl, hn0, hn, hp2, hp, hlen, hIL, HF, HN, hk⟩ := hrel
    obtain ⟨P, hP⟩ : ∃ P, p * p = P := ⟨_, rfl⟩
    have hPb : P ≤ 4295098369 := by rw [← hP]; exact Nat.mul_le_mul hp hp
    have e1 : IntKind.i64.wrap ((p : Int) * (p : Int)) = (P : Int) := by rw [← Int.natCast_mul, hP]; exact IntWalk.i64_in _ (by omega)
    have HPP := Lib.hid hP
    clear hP
    by_cases hle : P ≤ n
    · have hp6 : p ≤ 65536 := by
        refine Nat.le_of_not_lt fun h => ?_
        have := Nat.mul_le_mul (show 65537 ≤ p from h) (show 65537 ≤ p from h)
        have := HPP.out
        omega
      have dP : decide ((P : Int) ≤ (n : Int)) = true := by simpa using hle
      go_wp2_with fail
      obtain ⟨wo, hwo⟩ : ∃ wo : World, wo = wr := ⟨_, rfl⟩
      rw [← hwo] at hIL hk ⊢
      clear hwo wr
      go_loopw [0, 3] (fun x v wr => ∃ (n : Nat) (l : List Nat), x = .int .i64 n ∧ 0 < n ∧ n ≤ 4294967296 ∧ l.length + (facts n).length ≤ 4294967296 ∧ IL wr w.heap.size v l ∧ Hid (FL = l ++ facts n) ∧ Hid (∀ q, 2 ≤ q → q < p → ¬ q ∣ n) ∧ Kp w wr) (fun x _ _ => (intOf x).toNat)
      case atStart => exact ⟨n, l, rfl, hn0, hn, hlen, hIL, HF, HN, hk⟩
      case round =>
        clear hIL hk HF HN hlen hn hn0
        obtain ⟨n, l, rfl, hn0, hn, hlen, hIL, HF, HN, hk⟩ := hrel
        by_cases hd : n % p = 0
        · obtain ⟨f1, f2, f3, f4⟩ := facts_pull hp2 hd hn0 HN.out
          have d3 : ((n : Int) % (p : Int) == 0) = true := by rw [← Int.natCast_emod, hd]; rfl
          obtain ⟨m, hm⟩ : ∃ m, n / p = m := ⟨_, rfl⟩
          rw [hm] at f1 f2 f3 f4
          have e3 : IntKind.i64.wrap ((n : Int) / (p : Int)) = (m : Int) := by rw [← Int.natCast_ediv, hm]; exact IntWalk.i64_in _ (by omega)
          have HF1 := Lib.hid f1
          have HF4 := Lib.hid f4
          have hlen2 : l.length + 1 + (facts m).length ≤ 4294967296 := by rw [f1, List.length_cons] at hlen; omega
          clear f1 f4 hd hm
          go_wp2_with (at_builtin; refine wpList_append_own _ rfl _ _ 22 rfl w.heap.size 3 i0 (.int .i64 0) 1 8 Tryd.underlying22 hi hz0 hz1 hz2 rfl (by decide) _ _ _ rfl (World.ownsRow.alloc hIL _) ⟨wr.heap.size, 0, none⟩ 1 1 [.int .i64 p] rfl rfl ?c1 ?c2 ?c3 ?c4 ?c5 ?_)
          case c1 => exact cell_one_new _ _ _
          case c2 => simp [Value.oneCell']
          case c3 => unfold maxLen; omega
          case c4 => omega
          case c5 => have := hk.size; simp; omega
          intro v' w5 hown5 hg _
          have hk5 : Kp w w5 := (hk.alloc _).grown hg (fun j hj => (World.ownsRow.lt hIL j hj).1)
          have hIL5 : IL w5 w.heap.size v' (l ++ [p]) := by unfold IL; rw [ints_snoc, List.length_append]; exact hown5
          have HF5 : Hid (FL = (l ++ [p]) ++ facts m) := Lib.hid (by rw [HF.out, HF1.out]; simp)
          clear hown5 hg
          go_wp2_with fail
          go_roundw
          case rel => exact ⟨m, l ++ [p], rfl, f2, by omega, by simp; omega, hIL5, HF5, HF4, hk5⟩
          case measure => simp [intOf]; omega
        · have d3 : ((n : Int) % (p : Int) == 0) = false := by rw [← Int.natCast_emod, beq_eq_false_iff_ne]; omega
          have HN' : Hid (∀ q, 2 ≤ q → q < p + 1 → ¬ q ∣ n) := Lib.hid fun q h1 h2 hq => by
            rcases Nat.lt_or_ge q p with h4 | h4
            · exact HN.out q h1 h4 hq
            · obtain rfl : q = p := by omega
              exact hd (Nat.mod_eq_zero_of_dvd hq)
          clear hd
          go_wp2_with fail
          go_roundw
          case rel => exact ⟨n, p + 1, l, rfl, by go_num, hn0, hn, by omega, by omega, hlen, hIL, HF, HN', hk⟩
          case measure => simp [intOf]; omega
    · have hend := facts_end (n := n) hn0 HN.out (by rw [HPP.out]; omega)
      have dP : decide ((P : Int) ≤ (n : Int)) = false := by simp; omega
      by_cases h1 : 1 < n
      · rw [if_pos h1] at hend
        have HE := Lib.hid hend
        have hl1 : l.length + 1 ≤ 4294967296 := by rw [hend] at hlen; simpa using hlen
        clear hend
        have d4 : decide ((1 : Int) < (n : Int)) = true := by simp; omega
        go_wp2_with (at_builtin; refine wpList_append_own _ rfl _ _ 22 rfl w.heap.size 3 i0 (.int .i64 0) 1 8 Tryd.underlying22 hi hz0 hz1 hz2 rfl (by decide) _ _ _ rfl (World.ownsRow.alloc hIL _) ⟨wr.heap.size, 0, none⟩ 1 1 [.int .i64 n] rfl rfl ?c1 ?c2 ?c3 ?c4 ?c5 ?_)
        case c1 => exact cell_one_new _ _ _
        case c2 => simp [Value.oneCell']
        case c3 => unfold maxLen; omega
        case c4 => omega
        case c5 => have := hk.size; simp; omega
        intro v' w5 hown5 hg _
        have hk5 : Kp w w5 := (hk.alloc _).grown hg (fun j hj => (World.ownsRow.lt hIL j hj).1)
        have hIL5 : IL w5 w.heap.size v' (l ++ [n]) := by unfold IL; rw [ints_snoc, List.length_append]; exact hown5
        have HF5 : Hid (FL = l ++ [n]) := Lib.hid (by rw [HF.out, HE.out])
        clear hown5 hg
        go_wp2_with fail
        go_ret
        exact ⟨v', rfl, by rw [HF5.out]; exact hIL5, hk5⟩
      · rw [if_neg h1] at hend
        have HE := Lib.hid hend
        clear hend
        have d4 : decide ((1 : Int) < (n : Int)) = false := by simp; omega
        go_wp2_with fail
        go_ret
        exact ⟨_, rfl, by rw [HF.out, HE.out, List.append_nil]; exact hIL, hk⟩
end Go.Proofs.YtgjlldapnodfbaaDoor
