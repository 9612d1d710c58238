/-
  The reference's cheapest: the state within a call; where the length is known already.
-/
import Derived.Test.YtgjlldapnodfbaaDoorORefD
import Derived.Test.YtgjlldapnodfbaaDoorOBest3
namespace Go.Ord
open Go.Pr
theorem offer_take {b : Option (Tr × Int)} {T : Tr} {c least : Int} (hb : ∀ T0 C0, b = some (T0, C0) → least = C0 ∧ 0 ≤ C0) (h : least < 0 ∨ c < least) : offer b T c = some (T, c) := by
  cases b with
  | none => rfl
  | some x =>
    obtain ⟨T0, C0⟩ := x
    obtain ⟨rfl, h0⟩ := hb T0 C0 rfl
    unfold offer
    simp only
    rw [if_pos (by omega)]
theorem offer_keep {b : Option (Tr × Int)} {T : Tr} {c least : Int} (hb : ∀ T0 C0, b = some (T0, C0) → least = C0 ∧ 0 ≤ C0) (hn : b = none → least < 0) (h0 : ¬ least < 0) (h : ¬ c < least) : offer b T c = b := by
  cases b with
  | none => exact absurd (hn rfl) h0
  | some x =>
    obtain ⟨T0, C0⟩ := x
    obtain ⟨rfl, _⟩ := hb T0 C0 rfl
    unfold offer
    simp only
    rw [if_neg h]
theorem belowA_two (p : Pol) (n : Nat) : belowA p n 2 = headStep p n := by
  unfold belowA
  have e : (List.range' 1 (2 - 1)).filter (fun d => n % d == 0) = [1] := by simp [List.range', Nat.mod_one]
  rw [e]
  show divStep p (best p) n (headStep p n) 1 = _
  unfold divStep
  rw [if_pos (.inl (by decide))]
theorem belowA_step (p : Pol) (n a : Nat) (h : 1 ≤ a) : belowA p n (a + 1) = if n % a = 0 then divStep p (best p) n (belowA p n a) a else belowA p n a := by
  unfold belowA
  obtain ⟨b, rfl⟩ : ∃ b, a = b + 1 := ⟨a - 1, by omega⟩
  rw [Nat.add_sub_cancel, Nat.add_sub_cancel, List.range'_1_concat, List.filter_append, List.foldl_append]
  by_cases hm : n % (b + 1) = 0
  · rw [if_pos hm]
    have e : [1 + b].filter (fun d => n % d == 0) = [b + 1] := by
      rw [Nat.add_comm 1 b, List.filter_cons_of_pos (by simpa using hm)]; rfl
    rw [e]
    rfl
  · rw [if_neg hm]
    have e : [1 + b].filter (fun d => n % d == 0) = [] := by
      rw [Nat.add_comm 1 b, List.filter_cons_of_neg (by simpa using hm)]; rfl
    rw [e]
    rfl
theorem belowA_end (p : Pol) {n : Nat} (hn : 1 ≤ n) : (divs n).foldl (divStep p (best p) n) (headStep p n) = belowA p n (max n 2) := by
  have e : (divs n).foldl (divStep p (best p) n) (headStep p n) = belowA p n (n + 1) := by unfold belowA divs; rw [Nat.add_sub_cancel]
  rw [e]
  by_cases h : n = 1
  · subst h; rfl
  · rw [Nat.max_eq_left (by omega), belowA_step p n n hn]
    split
    · unfold divStep; rw [if_pos (.inr rfl)]
    · rfl
theorem divStep_nil {p : Pol} {r : Nat → Option (Tr × Int)} {n a : Nat} {b : Option (Tr × Int)} (h : p.heads a = []) : divStep p r n b a = b := by
  unfold divStep
  split
  · rfl
  · split
    · rfl
    · rw [h]; rfl
end Go.Ord
namespace Go.Proofs.YtgjlldapnodfbaaDoor
open Go Go.RowKit Go.Fl Go.Ord Go.Pr

/-- What the reference's cheapest gives. -/
def RSpec (p : Pol) (vf : Value) (n : Nat) : Prop := ∀ (Q S : Nat → Prop) (bk : Nat) (w : World) (l : List Nat), (∀ g, w.heap.size ≤ g → Q g) → FlS S w vf p.fl → KI p Q S bk w l →
  Calls Tryd.prog 32 #[.pointer (some ⟨bk, 0, none⟩), .int .i64 n, .agg #[.int .i64 p.D, vf, .int .i64 p.P]] w fun e w' => ∃ k n0 o m c cost S' ext, e = .returned (.tuple #[.agg #[.int .i64 k, .int .i64 n0, .slice o m c], .int .i64 cost]) ∧
    BVal (fun g => Q g ∧ ¬ S' g) w' (best p n) k n0 (.slice o m c) cost ∧ KI p Q S' bk w' (l ++ ext) ∧ KX S w S' w' ∧ ∀ i ∈ ext, rank i ≤ rank n
theorem BVal.least {Q : Nat → Prop} {w : World} {b : Option (Tr × Int)} {k n : Int} {s : Value} {c : Int} (h : BVal Q w b k n s c) : (∀ T0 C0, b = some (T0, C0) → c = C0 ∧ 0 ≤ C0) ∧ (b = none → c < 0) ∧ -1 ≤ c ∧ c ≤ 4611686018427387905 := by
  cases b with
  | none =>
    obtain ⟨h1, _⟩ := h
    refine ⟨fun T0 C0 e => ?_, fun _ => by omega, by omega, by omega⟩
    cases e
  | some x =>
    obtain ⟨T, C⟩ := x
    obtain ⟨h1, h2, h3, _⟩ := h
    refine ⟨fun T0 C0 e => ?_, fun e => ?_, by omega, by omega⟩
    · cases e; exact ⟨h1, h2⟩
    · cases e
theorem BVal.take {Q : Nat → Prop} {w : World} {T : Tr} {k n : Int} {s : Value} {c : Int} (h0 : 0 ≤ c) (h1 : c ≤ 4611686018427387905) (h : OX Q w T (.agg #[.int .i64 k, .int .i64 n, s])) : BVal Q w (some (T, c)) k n s c := ⟨rfl, h0, h1, h⟩
/-- The rows, opened for a walk. -/
theorem KM.open {S : Nat → Prop} {bk : Nat} {w : World} {vN : Value} {nN : Nat} {xs : List Value} {vO : Value} {nO : Nat} {es : List Value} {vC : Value} {nC : Nat} {cs : List Value} (h : KM S bk w vN nN xs vO nO es vC nC cs) :
    ∃ oN cN oO cO oC cC, vN = .slice oN nN cN ∧ vO = .slice oO nO cO ∧ vC = .slice oC nC cC := by
  obtain ⟨a, b, h1⟩ := owns_form2 h.rN
  obtain ⟨c, d, h2⟩ := owns_form2 h.rO
  obtain ⟨e, f, h3⟩ := owns_form2 h.rC
  exact ⟨a, b, c, d, e, f, h1, h2, h3⟩
set_option maxRecDepth 100000 in
set_option maxHeartbeats 4000000 in
theorem rcheap_hit (p : Pol) (vf : Value) (n : Nat) (Q S : Nat → Prop) (bk : Nat) (w : World) (l : List Nat) (hfl : FlS S w vf p.fl) (hK : KI p Q S bk w l) (hn : n ∈ l) :
    Calls Tryd.prog 32 #[.pointer (some ⟨bk, 0, none⟩), .int .i64 n, .agg #[.int .i64 p.D, vf, .int .i64 p.P]] w fun e w' => ∃ k n0 o m c cost S' ext, e = .returned (.tuple #[.agg #[.int .i64 k, .int .i64 n0, .slice o m c], .int .i64 cost]) ∧
      BVal (fun g => Q g ∧ ¬ S' g) w' (best p n) k n0 (.slice o m c) cost ∧ KI p Q S' bk w' (l ++ ext) ∧ KX S w S' w' ∧ ∀ i ∈ ext, rank i ≤ rank n := by
  have HK := Lib.hid hK
  obtain ⟨vN, vO, vC, es, cs, hM, hE⟩ := hK
  obtain ⟨oN, cN, oO, cO, oC, cC, rfl, rfl, rfl⟩ := hM.open
  have HM := Lib.hid hM
  have HE := Lib.hid hE
  have HN := Lib.hid hn
  have hlen := hE.len
  have hrow := hM.row
  have hlt := hM.lt bk hM.sk
  clear hM hE hn
  obtain ⟨L, hL⟩ : ∃ L, l.length = L := ⟨_, rfl⟩
  have HL := Lib.hid hL
  rw [hL] at HM hlen hrow
  obtain ⟨of, cf, rfl, _⟩ := hfl
  obtain ⟨mf, hmf⟩ : ∃ mf, p.fl.length = mf := ⟨_, rfl⟩
  rw [hmf]
  clear hL hmf
  obtain ⟨D, hD⟩ : ∃ D, p.D = D := ⟨_, rfl⟩
  obtain ⟨P, hP⟩ : ∃ P, p.P = P := ⟨_, rfl⟩
  rw [hD, hP]
  clear hD hP
  have hk := ((Kp.refl w).alloc (.cells #[.int .i64 D, .slice of mf cf, .int .i64 P] 24)).alloc (.cells #[.int .i64 0, .int .i64 0, .slice none 0 0] 28)
  have h6 := heap_alloc2_new w (.cells #[.int .i64 D, .slice of mf cf, .int .i64 P] 24) (.cells #[.int .i64 0, .int .i64 0, .slice none 0 0] 28)
  go_enter Tryd.func32, Tryd.ntmps32
  go_upto_region 1 with fail
  generalize (w.alloc (.cells #[.int .i64 D, .slice of mf cf, .int .i64 P] 24)).alloc (.cells #[.int .i64 0, .int .i64 0, .slice none 0 0] 28) = W at *
  obtain ⟨⟨r0, r1, r2⟩, _⟩ := row3_facts ((hk.block bk hlt).trans hrow)
  have HW := Lib.hid hk
  have H6 := Lib.hid h6
  clear hk h6 hrow
  go_wp2_with fail
  go_loopw [8] (fun y wr => ∃ i : Nat, i ≤ L ∧ y = .int .i64 i ∧ Hid (∀ j (hj : j < l.length), j < i → l[j] ≠ n) ∧ wr = W) (fun y _ => L - (intOf y).toNat)
  case atStart => exact ⟨0, by omega, rfl, Lib.hid fun j _ hj => by omega, rfl⟩
  case round =>
    obtain ⟨i, hi, rfl, HJ, rfl⟩ := hrel
    by_cases hlt' : i < L
    · have hil : i < l.length := by rw [HL.out]; exact hlt'
      obtain ⟨g1, c1, e1⟩ := owns_form HM.out.rN (show 0 < L by omega)
      cases e1
      have q := (HW.out).later ((HM.out.rN.cellAt i (by omega)).trans (show (keyCells l)[i]? = some (.int .i64 ((l[i] : Nat) : Int)) by unfold keyCells; rw [List.getElem?_map, List.getElem?_eq_getElem hil]; rfl))
      obtain ⟨x, hx⟩ : ∃ x, l[i] = x := ⟨_, rfl⟩
      rw [hx] at q
      have HX := Lib.hid hx
      clear hx
      by_cases hxn : x = n
      · subst hxn
        obtain ⟨g2, c2, e2⟩ := owns_form HM.out.rO (show 0 < L by omega)
        cases e2
        obtain ⟨g3, c3, e3⟩ := owns_form HM.out.rC (show 0 < L by omega)
        cases e3
        obtain ⟨k, n0, o, m, c, cost, s1, s2, s3, s4, hB⟩ := HE.out.2 i hil
        rw [HX.out] at hB
        have t1 := (HW.out).later ((HM.out.rO.cellAt (i * 3) (by omega)).trans s1)
        have t2 := (HW.out).later ((HM.out.rO.cellAt (i * 3 + 1) (by omega)).trans s2)
        have t3 := (HW.out).later ((HM.out.rO.cellAt (i * 3 + 2) (by omega)).trans s3)
        have t4 := (HW.out).later ((HM.out.rC.cellAt i (by omega)).trans s4)
        have HB := Lib.hid hB
        obtain ⟨⟨z0, z1, z2⟩, f0, f1, f2⟩ := row3_facts H6.out
        have l2 : g2 < w.heap.size := (HM.out.rO.lt g2 rfl).2
        have l3 : g3 < w.heap.size := (HM.out.rC.lt g3 rfl).2
        have n1 : ¬ bk = w.heap.size + 1 := by omega
        have n2 : ¬ g2 = w.heap.size + 1 := by omega
        have n3 : ¬ g3 = w.heap.size + 1 := by omega
        have n1' : ¬ w.heap.size + 1 = bk := by omega
        have n2' : ¬ w.heap.size + 1 = g2 := by omega
        have n3' : ¬ w.heap.size + 1 = g3 := by omega
        clear s1 s2 s3 s4 hB
        go_wp2_with fail
        go_region_held3 (fun w' => w'.cell? ⟨bk, 1, none⟩ = some (.slice (some ⟨g2, 0, none⟩) L cO) ∧ w'.cell? ⟨bk, 2, none⟩ = some (.slice (some ⟨g3, 0, none⟩) L cC) ∧ w'.cell? ⟨g2, i * 3, none⟩ = some (.int .i64 k) ∧ w'.cell? ⟨g2, i * 3 + 1, none⟩ = some (.int .i64 n0) ∧ w'.cell? ⟨g2, i * 3 + 2, none⟩ = some (.slice o m c) ∧ w'.cell? ⟨g3, i, none⟩ = some (.int .i64 cost)) (go_keep) (fail)
        all_goals go_wp2_with fail
        have k9 := Kp.drew (Kp.set3 (R := w.heap.size + 1) HW.out (by omega) (.int .i64 k) (.int .i64 n0) (.slice o m c))
        exact bodyPost_ret (ret_order2 (p := 6) (u := 7) rfl _ _ (w.heap.size + 1) _ _ _ _ _ rfl (heap_set3 wr (w.heap.size + 1) _ _ _ _ _ _ _ _ H6.out)) rfl ⟨k, n0, o, m, c, cost, S, [], rfl, HB.out.kx (.of k9), by rw [List.append_nil]; exact HK.out.kp k9, .of k9, fun i hi => by cases hi⟩
      · have d : ((x : Int) == (n : Int)) = false := by simp; omega
        have HJ2 : Hid (∀ j (hj : j < l.length), j < i + 1 → l[j] ≠ n) := Lib.hid fun j hj hji => by
          by_cases e : j = i
          · subst e; rw [HX.out]; exact hxn
          · exact HJ.out j hj (by omega)
        clear hxn
        go_wp2_with fail
        go_roundw
        case rel => exact ⟨i + 1, by omega, by go_num, HJ2, by first | rfl | trivial⟩
        case measure => simp [intOf]; omega
    · exfalso
      obtain ⟨j, hj, e⟩ := List.getElem_of_mem HN.out
      exact HJ.out j hj (by have := HL.out; omega) e
end Go.Proofs.YtgjlldapnodfbaaDoor
