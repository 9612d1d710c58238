import Derived.Test.YtgjlldapnodfbaaDoorOBest3
import Derived.Test.YtgjlldapnodfbaaDoorORefF
import Derived.Maps.AppendAt
import Derived.Laws.AppendOwnNone
import Derived.Deep.DeepCutAuto
import Derived.Deep.CutBlock
/-
  All orders of a length, in order, as a plain function; what is left of a list where no more than so many are wanted.
-/
namespace Go.Ord
open Go.Pr
/-- The tree of a chosen order. -/
def treeOf : Option (Tr × Int) → Tr
  | none => .mk 0 0 0 (fun _ => .nil)
  | some (T, _) => T
/-- Bluestein's way for n. -/
def blueOf (p : Pol) (n : Nat) : Tr := (treeOf (best p (twoOf (2 * n - 1)))).blue n
/-- The products with a first part of length a. -/
def ordsDiv (p : Pol) (rec : Nat → List Tr) (n a : Nat) : List Tr :=
  if a < 2 ∨ a = n then [] else (p.heads a).flatMap fun k => (rec (n / a)).map fun T => (leaf k a).times T
def ordsHead (p : Pol) (n : Nat) : List Tr := (p.heads n).map fun k => leaf k n
def ordsBlue (p : Pol) (n : Nat) : List Tr := if p.hard n then [blueOf p n] else []
def ordsStep (p : Pol) (rec : Nat → List Tr) (n : Nat) : List Tr := ordsHead p n ++ (divs n).flatMap (ordsDiv p rec n) ++ ordsBlue p n
def ordsF (p : Pol) : Nat → Nat → List Tr
  | 0, _ => []
  | f + 1, n => ordsStep p (ordsF p f) n
theorem flatMap_same {α β : Type} {f g : α → List β} : ∀ {l : List α}, (∀ a ∈ l, f a = g a) → l.flatMap f = l.flatMap g
  | [], _ => rfl
  | a :: l, h => by
    rw [List.flatMap_cons, List.flatMap_cons, h a (List.mem_cons_self ..), flatMap_same fun x hx => h x (List.mem_cons_of_mem _ hx)]
theorem ordsStep_same {p : Pol} {r r' : Nat → List Tr} {n : Nat} (hn : 1 ≤ n) (h : ∀ m, 1 ≤ m → m < n → r m = r' m) : ordsStep p r n = ordsStep p r' n := by
  unfold ordsStep
  rw [flatMap_same (g := ordsDiv p r' n) fun a ha => ?_]
  have hd := (mem_divs (by omega)).1 ha
  unfold ordsDiv
  split
  · rfl
  · rename_i hc
    rw [h (n / a) (Nat.div_pos (Nat.le_of_dvd hn hd) (by omega)) (Nat.div_lt_self hn (by omega))]
theorem ordsF_same {p : Pol} : ∀ (f g n : Nat), 1 ≤ n → n ≤ f → n ≤ g → ordsF p f n = ordsF p g n
  | 0, _, n, h, h1, _ => by omega
  | _ + 1, 0, n, h, _, h2 => by omega
  | f + 1, g + 1, n, hn, h1, h2 => ordsStep_same hn fun m hm hlt => ordsF_same f g m hm (by omega) (by omega)
/-- All orders of a length, in order. -/
def ords (p : Pol) (n : Nat) : List Tr := ordsF p n n
theorem ords_eq {p : Pol} {n : Nat} (hn : 1 ≤ n) : ords p n = ordsStep p (ords p) n := by
  obtain ⟨m, rfl⟩ : ∃ m, n = m + 1 := ⟨n - 1, by omega⟩
  show ordsStep p (ordsF p m) (m + 1) = _
  exact ordsStep_same hn fun q hq hlt => ordsF_same m q q hq (by omega) (Nat.le_refl _)
/-- The orders up to the divisors below a. -/
def ordsTo (p : Pol) (n a : Nat) : List Tr := ordsHead p n ++ ((List.range' 1 (a - 1)).filter (fun d => n % d == 0)).flatMap (ordsDiv p (ords p) n)
theorem ordsTo_two (p : Pol) (n : Nat) : ordsTo p n 2 = ordsHead p n := by
  unfold ordsTo
  have e : (List.range' 1 (2 - 1)).filter (fun d => n % d == 0) = [1] := by simp [List.range', Nat.mod_one]
  rw [e]
  show ordsHead p n ++ (ordsDiv p (ords p) n 1 ++ []) = _
  unfold ordsDiv
  rw [if_pos (.inl (by decide)), List.append_nil, List.append_nil]
theorem ordsTo_step (p : Pol) (n a : Nat) (h : 1 ≤ a) : ordsTo p n (a + 1) = if n % a = 0 then ordsTo p n a ++ ordsDiv p (ords p) n a else ordsTo p n a := by
  unfold ordsTo
  obtain ⟨b, rfl⟩ : ∃ b, a = b + 1 := ⟨a - 1, by omega⟩
  rw [Nat.add_sub_cancel, Nat.add_sub_cancel, List.range'_1_concat, List.filter_append, List.flatMap_append]
  by_cases hm : n % (b + 1) = 0
  · rw [if_pos hm]
    have e : [1 + b].filter (fun d => n % d == 0) = [b + 1] := by
      rw [Nat.add_comm 1 b, List.filter_cons_of_pos (by simpa using hm)]; rfl
    rw [e, List.flatMap_cons, List.flatMap_nil, List.append_nil, List.append_assoc]
  · rw [if_neg hm]
    have e : [1 + b].filter (fun d => n % d == 0) = [] := by
      rw [Nat.add_comm 1 b, List.filter_cons_of_neg (by simpa using hm)]; rfl
    rw [e, List.flatMap_nil, List.append_nil]
theorem ordsTo_end (p : Pol) {n : Nat} (hn : 1 ≤ n) : ords p n = ordsTo p n (max n 2) ++ ordsBlue p n := by
  rw [ords_eq hn]
  unfold ordsStep
  congr 1
  have e : ordsHead p n ++ (divs n).flatMap (ordsDiv p (ords p) n) = ordsTo p n (n + 1) := by unfold ordsTo divs; rw [Nat.add_sub_cancel]
  rw [e]
  by_cases h : n = 1
  · subst h; rfl
  · rw [Nat.max_eq_left (by omega), ordsTo_step p n n hn]
    split
    · unfold ordsDiv; rw [if_pos (.inr rfl), List.append_nil]
    · rfl
/-! ### No more than so many -/
/-- l is what a look at the first t of X has brought. -/
def Tk {α : Type} (t : Nat) (l X : List α) : Prop := l.take t = X.take t ∧ (l.length < t → l = X)
theorem Tk.refl {α : Type} (t : Nat) (l : List α) : Tk t l l := ⟨rfl, fun _ => rfl⟩
theorem take_len {α : Type} {t : Nat} {l X : List α} (h : l.take t = X.take t) (hl : t ≤ l.length) : t ≤ X.length := by
  have := congrArg List.length h
  rw [List.length_take, List.length_take] at this
  omega
theorem Tk.stop {α : Type} {t : Nat} {l X : List α} (h : Tk t l X) (hl : t ≤ l.length) (Y : List α) : Tk t l (X ++ Y) := by
  refine ⟨?_, fun h2 => by omega⟩
  rw [List.take_append_of_le_length (take_len h.1 hl)]
  exact h.1
theorem Tk.add {α : Type} {t : Nat} {l l' X Y : List α} (h : Tk t l X) (hl : l.length < t) (h' : Tk (t - l.length) l' Y) : Tk t (l ++ l') (X ++ Y) := by
  obtain rfl := h.2 hl
  refine ⟨?_, fun h2 => ?_⟩
  · rw [List.take_append, List.take_append, h'.1]
  · rw [h'.2 (by rw [List.length_append] at h2; omega)]
theorem Tk.snoc {α : Type} {t : Nat} {l X : List α} (h : Tk t l X) (Y : List α) : Tk t (l ++ Y) (X ++ Y) := by
  rcases Nat.lt_or_ge l.length t with c | c
  · obtain rfl := h.2 c
    exact Tk.refl _ _
  · refine ⟨?_, fun h2 => ?_⟩
    · rw [List.take_append_of_le_length c, List.take_append_of_le_length (take_len h.1 c)]
      exact h.1
    · rw [List.length_append] at h2; omega
theorem Tk.done {α : Type} {t : Nat} {l X : List α} (h : Tk t l X) : l.take t = X.take t := h.1
end Go.Ord
/-
  Lists of orders in memory: a row that a call owns, and what is handed back; append of a list that may be nil.
-/
namespace Go.Proofs.YtgjlldapnodfbaaDoor
open Go Go.RowKit Go.Fl Go.Ord Go.Pr

section
variable {P : Program} {w : World}
/-- An append of a list that may be nil, and where the new one lies. -/
theorem wpList_append_any {ops : Array Oper} {rest : List Oper} {o : Oper} {a : Act} {Q : Exit → Act → World → Prop} (hgd : o.guard = none) (s x : Operand) (t : TypeId)
    (ho : o.op = .call { callee := .builtin .append, args := #[s, x], argTypes := #[t, t] })
    (base : Nat) (e : TypeId) (i : TypeInfo) (z : Value) (size bytes : Nat) (ht : P.underlying t = some (.slice e)) (hi : P.info? e = some i) (hz : i.zero = some z)
    (hsize : i.size = size) (hby : i.bytes = bytes) (hzs : z.cells.size = size) (hsz : 0 < size)
    (v : Value) (n : Nat) (xs : List Value) (hs : a.eval s = v) (hown : w.ownsRow base e size v n xs)
    (base2 : Nat) (u : Value) (m : Nat) (ys : List Value) (hx : a.eval x = u) (hsrc : w.ownsRow base2 e size u m ys) (h1 : ∀ u ∈ ys, u.oneCell' = true)
    (h63 : n + m ≤ maxLen) (hbytes : (n + m) * bytes ≤ 140737488355328) (hbase : base ≤ w.heap.size)
    (h : ∀ o' c' w', w'.ownsRow base e size (.slice o' (n + m) c') (n + m) (xs ++ ys) → w.grownBy w' v.ownBlock → (∀ g, (Value.slice o' (n + m) c').ownBlock = some g → v.ownBlock = some g ∨ g = w.heap.size) → wpList P ops Q rest (a.put o.dst (.slice o' (n + m) c')) w') : wpList P ops Q (o :: rest) a w := by
  rcases hsrc.2 with ⟨h2, h3⟩ | ⟨g, cap, cur, h2, _⟩
  · have hy : ys = [] := by have := hsrc.1; rw [h3, Nat.zero_mul] at this; exact List.eq_nil_of_length_eq_zero this
    refine wpList_append_own_none hgd s x t ho base e i size ht hi v n xs hs hown (by rw [hx, h2]) ?_
    obtain ⟨o', c', rfl⟩ := owns_form2 hown
    have := h o' c' w (by rw [h3, hy, List.append_nil, Nat.add_zero]; exact hown) ⟨rfl, rfl, rfl, Nat.le_refl _, fun _ _ _ => rfl⟩ (fun g hg => by rw [h3, Nat.add_zero] at hg; exact .inl hg)
    rw [h3, Nat.add_zero] at this
    exact this
  · refine wpList_append_own_at w hgd s x t ho base e i z size bytes ht hi hz hsize hby hzs hsz v n xs hs hown ⟨g, 0, none⟩ m cap ys (by rw [hx, h2]) hsrc.1 (by rw [h2] at hsrc; exact hsrc.cells rfl) h1 h63 hbytes hbase ?_
    intro v' w' ha hb _ hc
    obtain ⟨o', c', rfl⟩ := owns_form2 ha
    refine h o' c' w' ha hb fun g' hg => ?_
    rcases hc with hc | hc
    · rw [hg] at hc; exact .inl hc.symm
    · rw [hg] at hc; injection hc with hc; exact .inr hc
end
/-! ### Trees side by side -/
def TC (R : Nat → Prop) (w : World) (l : List Tr) (es : List Value) : Prop :=
  es.length = l.length * 3 ∧ ∀ i (hi : i < l.length), ∃ k n o m c, es[i * 3]? = some (.int .i64 k) ∧ es[i * 3 + 1]? = some (.int .i64 n) ∧ es[i * 3 + 2]? = some (.slice o m c) ∧ OX R w l[i] (.agg #[.int .i64 k, .int .i64 n, .slice o m c])
theorem TC.nil (R : Nat → Prop) (w : World) : TC R w [] [] := ⟨rfl, fun i hi => absurd hi (Nat.not_lt_zero _)⟩
theorem TC.stay {R R' : Nat → Prop} {w w' : World} {l : List Tr} {es : List Value} (h : TC R w l es) (hs : w.heap.size ≤ w'.heap.size) (hk : ∀ g, g < w.heap.size → R g → w'.heap[g]? = w.heap[g]?) (hR : ∀ g, g < w.heap.size → R g → R' g) : TC R' w' l es := ⟨h.1, fun i hi => by
  obtain ⟨k, n, o, m, c, h1, h2, h3, h4⟩ := h.2 i hi
  exact ⟨k, n, o, m, c, h1, h2, h3, h4.stay hs hk hR⟩⟩
theorem TC.mono {R R' : Nat → Prop} {w : World} {l : List Tr} {es : List Value} (h : TC R w l es) (hR : ∀ g, g < w.heap.size → R g → R' g) : TC R' w l es := h.stay (Nat.le_refl _) (fun _ _ _ => rfl) hR
theorem TC.append {R : Nat → Prop} {w : World} {l l' : List Tr} {es es' : List Value} (h : TC R w l es) (h' : TC R w l' es') : TC R w (l ++ l') (es ++ es') := by
  refine ⟨by rw [List.length_append, List.length_append, h.1, h'.1, Nat.add_mul], fun i hi => ?_⟩
  by_cases c : i < l.length
  · obtain ⟨k, n, o, m, cc, h1, h2, h3, h4⟩ := h.2 i c
    have := h.1
    refine ⟨k, n, o, m, cc, ?_, ?_, ?_, by rw [List.getElem_append_left c]; exact h4⟩
    · rw [List.getElem?_append_left (by omega)]; exact h1
    · rw [List.getElem?_append_left (by omega)]; exact h2
    · rw [List.getElem?_append_left (by omega)]; exact h3
  · have hl := h.1
    have hi' : i - l.length < l'.length := by rw [List.length_append] at hi; omega
    obtain ⟨k, n, o, m, cc, h1, h2, h3, h4⟩ := h'.2 (i - l.length) hi'
    refine ⟨k, n, o, m, cc, ?_, ?_, ?_, by rw [List.getElem_append_right (by omega)]; exact h4⟩
    · rw [List.getElem?_append_right (by omega), hl, show i * 3 - l.length * 3 = (i - l.length) * 3 by omega]; exact h1
    · rw [List.getElem?_append_right (by omega), hl, show i * 3 + 1 - l.length * 3 = (i - l.length) * 3 + 1 by omega]; exact h2
    · rw [List.getElem?_append_right (by omega), hl, show i * 3 + 2 - l.length * 3 = (i - l.length) * 3 + 2 by omega]; exact h3
theorem TC.one {R : Nat → Prop} {w : World} {T : Tr} {k n : Int} {o : Option Addr} {m c : Nat} (h : OX R w T (.agg #[.int .i64 k, .int .i64 n, .slice o m c])) : TC R w [T] [.int .i64 k, .int .i64 n, .slice o m c] := by
  refine ⟨rfl, fun i hi => ?_⟩
  obtain rfl : i = 0 := by simp at hi; omega
  exact ⟨k, n, o, m, c, rfl, rfl, rfl, h⟩
/-- The leaves of a length. -/
theorem TC.heads (R : Nat → Prop) (w : World) (a : Int) (h0 : -9223372036854775808 ≤ a) (h1 : a ≤ 9223372036854775807) : ∀ ks : List Int, TC R w (ks.map fun k => leaf k a) (headCells a ks)
  | [] => TC.nil _ _
  | k :: ks => by
    have e : headCells a (k :: ks) = [.int .i64 k, .int .i64 a, .slice none 0 0] ++ headCells a ks := by simp [headCells]
    rw [List.map_cons, e]
    exact (TC.one (leaf_ox R w k a h0 h1)).append (TC.heads R w a h0 h1 ks)
theorem headCells_one (a : Int) (ks : List Int) : ∀ u ∈ headCells a ks, u.oneCell' = true := by
  intro u hu
  unfold headCells at hu
  obtain ⟨k, _, hu⟩ := List.mem_flatMap.1 hu
  simp at hu
  rcases hu with rfl | rfl | rfl <;> rfl
theorem TC.one' {R : Nat → Prop} {w : World} {l : List Tr} {es : List Value} (h : TC R w l es) : ∀ u ∈ es, u.oneCell' = true := by
  intro u hu
  obtain ⟨j, hj, rfl⟩ := List.getElem_of_mem hu
  have hl := h.1
  obtain ⟨k, n, o, m, c, h1, h2, h3, _⟩ := h.2 (j / 3) (by omega)
  have e := Nat.div_add_mod j 3
  have hm := Nat.mod_lt j (show 0 < 3 by decide)
  rw [List.getElem?_eq_some_iff] at h1 h2 h3
  obtain ⟨_, h1⟩ := h1
  obtain ⟨_, h2⟩ := h2
  obtain ⟨_, h3⟩ := h3
  obtain e0 | e0 | e0 : j = j / 3 * 3 ∨ j = j / 3 * 3 + 1 ∨ j = j / 3 * 3 + 2 := by omega
  · have : es[j] = es[j / 3 * 3] := by congr 1
    rw [this, h1]; rfl
  · have : es[j] = es[j / 3 * 3 + 1] := by congr 1
    rw [this, h2]; rfl
  · have : es[j] = es[j / 3 * 3 + 2] := by congr 1
    rw [this, h3]; rfl
/-- A row of orders that a call owns; R: where it and its trees may lie. -/
def OW (base : Nat) (R : Nat → Prop) (w : World) (v : Value) (l : List Tr) : Prop :=
  ∃ es, w.ownsRow base 28 3 v l.length es ∧ (∀ g, v.ownBlock = some g → R g) ∧ TC (fun g => R g ∧ v.ownBlock ≠ some g) w l es
/-- A list of orders that is handed back. -/
def OL (R : Nat → Prop) (w : World) (v : Value) (l : List Tr) : Prop :=
  ∃ o c, v = .slice o l.length c ∧ (0 < l.length → ∃ g, o = some ⟨g, 0, none⟩ ∧ (g < w.heap.size ∧ R g) ∧ ∀ i (hi : i < l.length), ∃ k n oo m cc, w.cell? ⟨g, i * 3, none⟩ = some (.int .i64 k) ∧ w.cell? ⟨g, i * 3 + 1, none⟩ = some (.int .i64 n) ∧ w.cell? ⟨g, i * 3 + 2, none⟩ = some (.slice oo m cc) ∧ OX R w l[i] (.agg #[.int .i64 k, .int .i64 n, .slice oo m cc]))
theorem OW.nil (base : Nat) (R : Nat → Prop) (w : World) : OW base R w (.slice none 0 0) [] := ⟨[], World.ownsRow_nil _ _ _ _, (fun g hg => by cases hg), TC.nil _ _⟩
theorem OW.form {base : Nat} {R : Nat → Prop} {w : World} {v : Value} {l : List Tr} (h : OW base R w v l) : ∃ o c, v = .slice o l.length c := by
  obtain ⟨es, h1, _⟩ := h
  exact owns_form2 h1
theorem OW.kx {base : Nat} {Q S S' : Nat → Prop} {w w' : World} {v : Value} {l : List Tr} (h : OW base (fun g => Q g ∧ ¬ S g) w v l) (k : KX S w S' w') : OW base (fun g => Q g ∧ ¬ S' g) w' v l := by
  obtain ⟨es, h1, h2, h3⟩ := h
  have hlt : ∀ g, v.ownBlock = some g → g < w.heap.size := fun g hg => (h1.lt g hg).2
  exact ⟨es, owns_block h1 fun g hg => k.block g (hlt g hg) (h2 g hg).2, fun g hg => ⟨(h2 g hg).1, k.outS (hlt g hg) (h2 g hg).2⟩,
    h3.stay k.size (fun g hg hq => k.block g hg hq.1.2) (fun g hg hq => ⟨⟨hq.1.1, k.outS hg hq.1.2⟩, hq.2⟩)⟩
theorem OW.kp {base : Nat} {R : Nat → Prop} {w w' : World} {v : Value} {l : List Tr} (h : OW base R w v l) (k : Kp w w') : OW base R w' v l := by
  obtain ⟨es, h1, h2, h3⟩ := h
  exact ⟨es, k.owns h1, h2, h3.stay k.size (fun g hg _ => k.block g hg) (fun _ _ h => h)⟩
/-- Behind an append. -/
theorem OW.pushed {base : Nat} {R : Nat → Prop} {w w1 w2 : World} {v : Value} {l l' : List Tr} {es es' : List Value} {o' : Option Addr} {c' : Nat} (h : w.ownsRow base 28 3 v l.length es)
    (hR : ∀ g, v.ownBlock = some g → R g) (ht : TC (fun g => R g ∧ v.ownBlock ≠ some g) w1 l es) (ht' : TC (fun g => R g ∧ v.ownBlock ≠ some g) w1 l' es') (hw : w.heap.size ≤ w1.heap.size)
    (hown : w2.ownsRow base 28 3 (.slice o' (l.length + l'.length) c') (l.length + l'.length) (es ++ es')) (hg : w1.grownBy w2 v.ownBlock) (hat : ∀ g, (Value.slice o' (l.length + l'.length) c').ownBlock = some g → v.ownBlock = some g ∨ g = w1.heap.size)
    (hRn : ∀ g, w.heap.size ≤ g → R g) : OW base R w2 (.slice o' (l.length + l'.length) c') (l ++ l') := by
  have e : (l ++ l').length = l.length + l'.length := List.length_append
  refine ⟨es ++ es', by rw [e]; exact hown, fun g hg => ?_, (ht.append ht').stay hg.size (fun g hlt hq => hg.block g hlt (Ne.symm hq.2)) fun g hlt hq => ⟨hq.1, fun h => ?_⟩⟩
  · rcases hat g hg with h | h
    · exact hR g h
    · exact hRn g (by omega)
  · rcases hat g h with h | h
    · exact hq.2 h
    · omega
/-- The first t of them, handed back. -/
theorem OW.hand {base : Nat} {R : Nat → Prop} {w : World} {o : Option Addr} {n c : Nat} {l : List Tr} (h : OW base R w (.slice o n c) l) (t c2 : Nat) (ht : t ≤ l.length) : OL R w (.slice o t c2) (l.take t) := by
  obtain ⟨es, h1, h2, h3⟩ := h
  have el : (l.take t).length = t := by rw [List.length_take, Nat.min_eq_left ht]
  refine ⟨o, c2, by rw [el], fun hpos => ?_⟩
  obtain ⟨g, cap, e, hb, hlt⟩ := h1.form (by omega)
  cases e
  have hg := h2 g rfl
  refine ⟨g, rfl, ⟨hlt, hg⟩, fun i hi => ?_⟩
  have hil : i < l.length := by omega
  obtain ⟨k, n, oo, m, cc, q1, q2, q3, q4⟩ := h3.2 i hil
  have hc := h3.1
  exact ⟨k, n, oo, m, cc, (h1.cellAt _ (by omega)).trans q1, (h1.cellAt _ (by omega)).trans q2, (h1.cellAt _ (by omega)).trans q3, by rw [List.getElem_take]; exact q4.mono fun g _ hq => hq.1⟩
theorem OL.kx {Q S S' : Nat → Prop} {w w' : World} {v : Value} {l : List Tr} (h : OL (fun g => Q g ∧ ¬ S g) w v l) (k : KX S w S' w') : OL (fun g => Q g ∧ ¬ S' g) w' v l := by
  obtain ⟨o, c, e, h⟩ := h
  refine ⟨o, c, e, fun hpos => ?_⟩
  obtain ⟨g, e2, hg, hc⟩ := h hpos
  refine ⟨g, e2, ⟨Nat.lt_of_lt_of_le hg.1 k.size, hg.2.1, k.outS hg.1 hg.2.2⟩, fun i hi => ?_⟩
  obtain ⟨k', n, oo, m, cc, q1, q2, q3, q4⟩ := hc i hi
  exact ⟨k', n, oo, m, cc, k.later q1 hg.2.2, k.later q2 hg.2.2, k.later q3 hg.2.2, q4.kx k⟩
theorem OL.kp {R : Nat → Prop} {w w' : World} {v : Value} {l : List Tr} (h : OL R w v l) (k : Kp w w') : OL R w' v l := by
  obtain ⟨o, c, e, h⟩ := h
  refine ⟨o, c, e, fun hpos => ?_⟩
  obtain ⟨g, e2, hg, hc⟩ := h hpos
  refine ⟨g, e2, ⟨Nat.lt_of_lt_of_le hg.1 k.size, hg.2⟩, fun i hi => ?_⟩
  obtain ⟨k', n, oo, m, cc, q1, q2, q3, q4⟩ := hc i hi
  exact ⟨k', n, oo, m, cc, k.later q1, k.later q2, k.later q3, q4.stay k.size (fun g hg _ => k.block g hg) (fun _ _ h => h)⟩
theorem OL.mono {R R' : Nat → Prop} {w : World} {v : Value} {l : List Tr} (h : OL R w v l) (hR : ∀ g, R g → R' g) : OL R' w v l := by
  obtain ⟨o, c, e, h⟩ := h
  refine ⟨o, c, e, fun hpos => ?_⟩
  obtain ⟨g, e2, hg, hc⟩ := h hpos
  refine ⟨g, e2, ⟨hg.1, hR g hg.2⟩, fun i hi => ?_⟩
  obtain ⟨k', n, oo, m, cc, q1, q2, q3, q4⟩ := hc i hi
  exact ⟨k', n, oo, m, cc, q1, q2, q3, q4.mono fun g _ hq => hR g hq⟩
end Go.Proofs.YtgjlldapnodfbaaDoor
/-
  The reference's all: the state within a call.
-/
namespace Go.Proofs.YtgjlldapnodfbaaDoor
open Go Go.RowKit Go.Fl Go.Ord Go.Pr

/-- What the reference's all gives. -/
def RAll (p : Pol) (vf : Value) (n : Nat) : Prop := ∀ (Q S : Nat → Prop) (bk : Nat) (w : World) (l : List Nat) (top : Nat), (∀ g, w.heap.size ≤ g → Q g) → FlS S w vf p.fl → KI p Q S bk w l → 1 ≤ top → top ≤ 4096 →
  Calls Tryd.prog 39 #[.pointer (some ⟨bk, 0, none⟩), .int .i64 n, .agg #[.int .i64 p.D, vf, .int .i64 p.P], .int .i64 (top : Nat)] w fun e w' => ∃ v S' ext, e = .returned v ∧
    OL (fun g => Q g ∧ ¬ S' g) w' v ((ords p n).take top) ∧ KI p Q S' bk w' (l ++ ext) ∧ KX S w S' w'
theorem KI.slt {p : Pol} {Q S : Nat → Prop} {bk : Nat} {w : World} {l : List Nat} (h : KI p Q S bk w l) : ∀ g, S g → g < w.heap.size := by
  obtain ⟨_, _, _, _, _, h1, _⟩ := h
  exact h1.lt
/-- w0: the world at the call's beginning; b6: the policy's box; l: what has been found. -/
structure AS (p : Pol) (vf : Value) (Q : Nat → Prop) (bk b6 : Nat) (w0 : World) (S0 : Nat → Prop) (l0 : List Nat) (S : Nat → Prop) (v : Value) (l : List Tr) (wr : World) : Prop where
  ki : ∃ ext, KI p (fun g => Q g ∧ v.ownBlock ≠ some g) S bk wr (l0 ++ ext)
  kx : KX S0 w0 S wr
  ow : OW w0.heap.size (fun g => Q g ∧ ¬ S g) wr v l
  bx : wr.heap[b6]? = some (.cells #[.int .i64 p.D, vf, .int .i64 p.P] 24 (0, 0))
  nb : ¬ S b6
  no : v.ownBlock ≠ some b6
section
variable {p : Pol} {vf : Value} {b6 bk : Nat} {Q S0 S S' : Nat → Prop} {l0 : List Nat} {v : Value} {l l' : List Tr} {w0 wr w1 w2 w' : World}
theorem AS.slt (h : AS p vf Q bk b6 w0 S0 l0 S v l wr) : ∀ g, S g → g < wr.heap.size := by
  obtain ⟨ext, h1⟩ := h.ki
  exact h1.slt
theorem AS.kp (h : AS p vf Q bk b6 w0 S0 l0 S v l wr) (k : Kp wr w') : AS p vf Q bk b6 w0 S0 l0 S v l w' := by
  obtain ⟨⟨ext, h1⟩, h2, h3, h4, h5, h6⟩ := h
  exact ⟨⟨ext, h1.kp k⟩, h2.kp k, h3.kp k, (k.block _ (Array.getElem?_eq_some_iff.1 h4).1).trans h4, h5, h6⟩
theorem AS.fl (h : AS p vf Q bk b6 w0 S0 l0 S v l wr) (hf : FlS S0 w0 vf p.fl) : FlS S wr vf p.fl := hf.kx h.kx
theorem AS.cells (h : AS p vf Q bk b6 w0 S0 l0 S v l wr) : wr.cell? ⟨b6, 0, none⟩ = some (.int .i64 p.D) ∧ wr.cell? ⟨b6, 1, none⟩ = some vf ∧ wr.cell? ⟨b6, 2, none⟩ = some (.int .i64 p.P) := (row3_facts h.bx).1
theorem AS.form (h : AS p vf Q bk b6 w0 S0 l0 S v l wr) : ∃ o c, v = .slice o l.length c := h.ow.form
theorem AS.start {w : World} (hK : KI p Q S0 bk w0 l0) (k : Kp w0 w) (hb : w0.heap.size ≤ b6) (h : w.heap[b6]? = some (.cells #[.int .i64 p.D, vf, .int .i64 p.P] 24 (0, 0))) : AS p vf Q bk b6 w0 S0 l0 S0 (.slice none 0 0) [] w := by
  refine ⟨⟨[], ?_⟩, .of k, OW.nil _ _ _, h, fun hS => ?_, by intro e; cases e⟩
  · rw [List.append_nil]
    exact (hK.mono (Q' := fun g => Q g ∧ (Value.slice none 0 0).ownBlock ≠ some g) fun g _ hq => ⟨hq, by intro e; cases e⟩).kp k
  · have := hK.slt b6 hS
    omega
/-- Another function has been called. -/
theorem AS.call {ext : List Nat} (h : AS p vf Q bk b6 w0 S0 l0 S v l wr) {L : List Nat} (hL : ∃ ex, L = l0 ++ ex) (hk : KI p (fun g => Q g ∧ v.ownBlock ≠ some g) S' bk w' (L ++ ext)) (x : KX S wr S' w') : AS p vf Q bk b6 w0 S0 l0 S' v l w' := by
  obtain ⟨_, h2, h3, h4, h5, h6⟩ := h
  obtain ⟨ex, rfl⟩ := hL
  have hlt := (Array.getElem?_eq_some_iff.1 h4).1
  exact ⟨⟨ex ++ ext, by rw [← List.append_assoc]; exact hk⟩, h2.trans x, h3.kx x, (x.block _ hlt h5).trans h4, x.outS hlt h5, h6⟩
/-- Behind an append. -/
theorem AS.pushed {es es' : List Value} {o' : Option Addr} {c' : Nat} (h : AS p vf Q bk b6 w0 S0 l0 S v l wr) (h1 : wr.ownsRow w0.heap.size 28 3 v l.length es) (h3 : TC (fun g => (Q g ∧ ¬ S g) ∧ v.ownBlock ≠ some g) wr l es) (k : Kp wr w1)
    (ht' : TC (fun g => (Q g ∧ ¬ S g) ∧ v.ownBlock ≠ some g) w1 l' es') (hown : w2.ownsRow w0.heap.size 28 3 (.slice o' (l.length + l'.length) c') (l.length + l'.length) (es ++ es')) (hg : w1.grownBy w2 v.ownBlock)
    (hat : ∀ g, (Value.slice o' (l.length + l'.length) c').ownBlock = some g → v.ownBlock = some g ∨ g = w1.heap.size) (hQ : ∀ g, w0.heap.size ≤ g → Q g) : AS p vf Q bk b6 w0 S0 l0 S (.slice o' (l.length + l'.length) c') (l ++ l') w2 := by
  have hS := h.slt
  obtain ⟨⟨ext, hki⟩, h2, ⟨es0, _, hR, _⟩, h4, h5, h6⟩ := h
  have hb6 := (Array.getElem?_eq_some_iff.1 h4).1
  have hvlt : ∀ g, v.ownBlock = some g → w0.heap.size ≤ g ∧ g < wr.heap.size := fun g e => h1.lt g e
  have hkw := k.size
  have hki1 := (hki.kp k).mono (Q' := fun g => (Q g ∧ v.ownBlock ≠ some g) ∧ (Value.slice o' (l.length + l'.length) c').ownBlock ≠ some g) fun g hg1 hq => ⟨hq, fun e => by
    rcases hat g e with e | e
    · exact hq.2 e
    · omega⟩
  have hki2 : KI p (fun g => Q g ∧ (Value.slice o' (l.length + l'.length) c').ownBlock ≠ some g) S bk w2 (l0 ++ ext) := by
    cases hv : v.ownBlock with
    | none => rw [hv] at hg; exact (hki1.kp (Kp.of_grown hg)).mono fun g _ hq => ⟨hq.1.1, hq.2⟩
    | some r =>
      rw [hv] at hg
      exact (hki1.kb (hR r hv).2 (fun g hq e => hq.1.2 (by rw [hv, e])) (Kb.of_grown hg)).mono fun g _ hq => ⟨hq.1.1, hq.2⟩
  have hkx2 : KX S0 w0 S w2 := by
    have hx := h2.kp k
    cases hv : v.ownBlock with
    | none => rw [hv] at hg; exact hx.kp (Kp.of_grown hg)
    | some r => rw [hv] at hg; exact hx.fresh (hvlt r hv).1 (Kb.of_grown hg)
  have e : (l ++ l').length = l.length + l'.length := List.length_append
  refine ⟨⟨ext, hki2⟩, hkx2, ?_, ?_, h5, fun e2 => ?_⟩
  · refine ⟨es ++ es', by rw [e]; exact hown, fun g hg' => ?_, ((h3.stay k.size (fun g hg _ => k.block g hg) (fun _ _ h => h)).append ht').stay hg.size (fun g hlt hq => hg.block g hlt (Ne.symm hq.2)) fun g hlt hq => ⟨hq.1, fun h => ?_⟩⟩
    · rcases hat g hg' with h | h
      · exact hR g h
      · exact ⟨hQ g (by have := h2.size; omega), fun hs => by have := hS g hs; omega⟩
    · rcases hat g h with h | h
      · exact hq.2 h
      · omega
  · rw [hg.block b6 (by omega) (Ne.symm h6), k.block b6 hb6]; exact h4
  · rcases hat b6 e2 with h | h
    · exact h6 h
    · omega
end
/-- All but S's blocks and the row's own stays. -/
def KO (S1 : Nat → Prop) (v1 : Value) (W1 : World) (S : Nat → Prop) (v : Value) (wr : World) : Prop := KX (fun g => S1 g ∨ v1.ownBlock = some g) W1 (fun g => S g ∨ v.ownBlock = some g) wr
theorem KO.refl (S : Nat → Prop) (v : Value) (w : World) : KO S v w S v w := KX.refl _ _
theorem KO.trans {S1 S2 S3 : Nat → Prop} {v1 v2 v3 : Value} {a b c : World} (h : KO S1 v1 a S2 v2 b) (k : KO S2 v2 b S3 v3 c) : KO S1 v1 a S3 v3 c := KX.trans h k
theorem KO.kp {S1 S2 : Nat → Prop} {v1 v2 : Value} {a b c : World} (h : KO S1 v1 a S2 v2 b) (k : Kp b c) : KO S1 v1 a S2 v2 c := KX.kp h k
theorem KO.of {S S' : Nat → Prop} {v : Value} {a b : World} (k : KX S a S' b) : KO S v a S' v b :=
  ⟨k.os, k.tape, k.output, k.size, fun g hg hS => k.block g hg (fun e => hS (.inl e)), fun g hg => hg.elim (fun h => (k.grow g h).imp .inl id) (fun h => .inl (.inr h))⟩
theorem KO.push {S : Nat → Prop} {v v' : Value} {a b c : World} (k : Kp a b) (hg : b.grownBy c v.ownBlock) (hat : ∀ g, v'.ownBlock = some g → v.ownBlock = some g ∨ g = b.heap.size) : KO S v a S v' c :=
  ⟨hg.os.trans k.os, hg.tape.trans k.tape, hg.output.trans k.output, Nat.le_trans k.size hg.size, fun g hlt hS => (hg.block g (Nat.lt_of_lt_of_le hlt k.size) (fun e => hS (.inr e.symm))).trans (k.block g hlt), fun g h => h.elim (fun h => .inl (.inl h)) (fun h => (hat g h).imp .inr fun e => by have := k.size; omega)⟩
theorem Tk.of_take {α : Type} (t : Nat) (X : List α) : Tk t (X.take t) X := by
  refine ⟨by rw [List.take_take, Nat.min_self], fun h => ?_⟩
  rw [List.length_take] at h
  exact List.take_of_length_le (by omega)
/-- One order more has been put behind. -/
theorem AS.pushed1 {p : Pol} {vf : Value} {b6 bk : Nat} {Q S0 S : Nat → Prop} {l0 : List Nat} {l : List Tr} {w0 wr w1 w2 : World} {es : List Value} {o : Option Addr} {c L g' c' : Nat} {T : Tr} {k n0 : Int} {oo : Option Addr} {mm cc : Nat}
    (h : AS p vf Q bk b6 w0 S0 l0 S (.slice o L c) l wr) (hl : l.length = L) (h1 : wr.ownsRow w0.heap.size 28 3 (.slice o L c) L es) (h3 : TC (fun g => (Q g ∧ ¬ S g) ∧ (Value.slice o L c).ownBlock ≠ some g) wr l es) (kw : Kp wr w1)
    (hT : OX (fun g => (Q g ∧ ¬ S g) ∧ (Value.slice o L c).ownBlock ≠ some g) w1 T (.agg #[.int .i64 k, .int .i64 n0, .slice oo mm cc])) (hown : w2.ownsRow w0.heap.size 28 3 (.slice (some ⟨g', 0, none⟩) (L + 1) c') (L + 1) (es ++ [.int .i64 k, .int .i64 n0, .slice oo mm cc])) (hg : w1.grownBy w2 (Value.slice o L c).ownBlock)
    (hat : (Value.slice o L c).ownBlock = some g' ∨ g' = w1.heap.size) (hQ : ∀ g, w0.heap.size ≤ g → Q g) :
    AS p vf Q bk b6 w0 S0 l0 S (.slice (some ⟨g', 0, none⟩) (L + 1) c') (l ++ [T]) w2 ∧ KO S (.slice o L c) wr S (.slice (some ⟨g', 0, none⟩) (L + 1) c') w2 := by
  subst hl
  have ha : ∀ g, (Value.slice (some ⟨g', 0, none⟩) (l.length + [T].length) c').ownBlock = some g → (Value.slice o l.length c).ownBlock = some g ∨ g = w1.heap.size := fun g e => by
    obtain rfl : g' = g := by simpa [Value.ownBlock] using e
    exact hat
  exact ⟨h.pushed h1 h3 kw (TC.one hT) hown hg ha hQ, KO.push kw hg ha⟩
theorem ordsTo_more (p : Pol) (n : Nat) {a b : Nat} (h1 : 1 ≤ a) (h : a ≤ b) : ∃ Y, ordsTo p n b = ordsTo p n a ++ Y := by
  induction b with
  | zero => omega
  | succ b ih =>
    by_cases e : a = b + 1
    · subst e; exact ⟨[], by rw [List.append_nil]⟩
    · obtain ⟨Y, hY⟩ := ih (by omega)
      rw [ordsTo_step p n b (by omega)]
      split
      · exact ⟨Y ++ ordsDiv p (ords p) n b, by rw [hY, List.append_assoc]⟩
      · exact ⟨Y, hY⟩
end Go.Proofs.YtgjlldapnodfbaaDoor
/-
  The walk of the reference's all.
-/
namespace Go.Proofs.YtgjlldapnodfbaaDoor
open Go Go.RowKit Go.Fl Go.Ord Go.Pr

theorem heads_le (p : Pol) (a : Int) : (p.heads a).length ≤ 2 := by unfold Pol.heads; split <;> split <;> simp
theorem ordsHead_len (p : Pol) (n : Nat) : (ordsHead p n).length = (p.heads n).length := by unfold ordsHead; rw [List.length_map]
theorem HL.row {w : World} {base m : Nat} {v : Value} {a : Int} {ks : List Int} (h : HL w base v a ks) (hm : ks.length = m) : w.ownsRow base 28 3 v m (headCells a ks) := hm ▸ h
theorem AS.first {p : Pol} {vf : Value} {b6 bk m n base2 : Nat} {Q S0 S : Nat → Prop} {l0 : List Nat} {w0 w1 w2 : World} {o o2 : Option Addr} {c c2 : Nat} (h : AS p vf Q bk b6 w0 S0 l0 S (.slice none 0 0) [] w1) (hm : (p.heads n).length = m) (hn : n ≤ 4096)
    (hv : HL w1 base2 (.slice o m c) n (p.heads n)) (hown : w2.ownsRow w0.heap.size 28 3 (.slice o2 (0 + m) c2) (0 + m) ([] ++ headCells n (p.heads n))) (hg : w1.grownBy w2 (Value.slice none 0 0).ownBlock)
    (hat : ∀ g, (Value.slice o2 (0 + m) c2).ownBlock = some g → (Value.slice none 0 0).ownBlock = some g ∨ g = w1.heap.size) (hQ : ∀ g, w0.heap.size ≤ g → Q g) : AS p vf Q bk b6 w0 S0 l0 S (.slice o2 m c2) (ordsHead p n) w2 := by
  have e : (ordsHead p n).length = m := by rw [ordsHead_len, hm]
  have := AS.pushed (o' := o2) (c' := c2) (l' := ordsHead p n) (es' := headCells n (p.heads n)) h (World.ownsRow_nil _ _ _ _) (TC.nil _ _) (Kp.refl _) (TC.heads _ _ _ (by omega) (by omega) _) (by rw [e]; exact hown) hg (by rw [e]; exact hat) hQ
  rw [e] at this
  simpa using this
set_option maxRecDepth 100000 in
set_option maxHeartbeats 4000000 in
theorem rall_step (p : Pol) (hp : p.Good) (vf : Value) (n : Nat) (hn1 : 1 ≤ n) (hn2 : n ≤ 4096) (hrec : ∀ m, 1 ≤ m → m < n → RAll p vf m) (hch : ∀ m, 1 ≤ m → m ≤ 16384 → RSpec p vf m) : RAll p vf n := by
  intro Q S0 bk w l0 top hQ hfl hK ht1 ht2
  have HQ := Lib.hid hQ
  have HFl := Lib.hid hfl
  have HRec := Lib.hid hrec
  have HCh := Lib.hid hch
  have HK := Lib.hid hK
  obtain ⟨of, cf, rfl, _⟩ := hfl
  obtain ⟨mf, hmf⟩ : ∃ mf, p.fl.length = mf := ⟨_, rfl⟩
  rw [hmf] at HFl HRec HCh ⊢
  have hmf4 : mf ≤ 4 := by rw [← hmf]; exact hp.fn
  have HS0 := Lib.hid (AS.start (p := p) (vf := .slice of mf cf) hK ((Kp.refl w).alloc (.cells #[.int .i64 p.D, .slice of mf cf, .int .i64 p.P] 24)) (Nat.le_refl _) (heap_alloc_new w (.cells #[.int .i64 p.D, .slice of mf cf, .int .i64 p.P] 24)))
  obtain ⟨i0, hi, hz⟩ := Option.map_eq_some_iff.1 info_order
  have hz0 : i0.zero = some (.agg #[.int .i64 0, .int .i64 0, .slice none 0 0]) := by injection hz
  have hz1 : i0.size = 3 := by injection hz with _ h; injection h
  have hz2 : i0.bytes = 40 := by injection hz with _ h; injection h
  have HLv : Hid (∀ (a m : Nat) S v l w', (p.heads a).length = m → AS p (.slice of mf cf) Q bk w.heap.size w S0 l0 S v l w' → Calls Tryd.prog 52 #[.int .i64 a, .agg #[.int .i64 p.D, .slice of mf cf, .int .i64 p.P]] w' fun e w'' => ∃ o c, e = .returned (.slice o m c) ∧ Hid (HL w'' w'.heap.size (.slice o m c) a (p.heads a)) ∧ Kp w' w'') := Lib.hid fun a m S v l w' hm h => by
    refine (rleaves_any p (.slice of mf cf) a w' (by omega) (h.fl HFl.out).fl).mono ?_
    rintro e w'' ⟨v', rfl, h1, h2⟩
    obtain ⟨o, c, rfl⟩ := HL.form h1
    rw [hm] at h1 ⊢
    exact ⟨o, c, rfl, Lib.hid h1, h2⟩
  have HMf := Lib.hid hmf
  clear hQ hrec hch hK hz hmf
  obtain ⟨m, hm⟩ : ∃ m, (p.heads n).length = m := ⟨_, rfl⟩
  have hm2 : m ≤ 2 := by rw [← hm]; exact heads_le _ _
  have HM := Lib.hid hm
  clear hm
  obtain ⟨c0, c1, c2⟩ := HS0.out.cells
  go_enter Tryd.func39, Tryd.ntmps39
  go_upto_region 3 with (go_at_call 52; (with_reducible refine (HLv.out n m _ _ _ _ HM.out HS0.out).mono ?_); rintro e w1 ⟨o1, cc1, rfl, HV1, hk1⟩)
  have HS1 := Lib.hid (HS0.out.kp hk1)
  have hb1 : w.heap.size ≤ w1.heap.size := HS1.out.kx.size
  clear c0 c1 c2 hk1 HS0
  go_upto_region 4 with (at_builtin; refine wpList_append_any rfl (.tmp 23) (.tmp 24) 26 rfl w.heap.size 28 i0 (.agg #[.int .i64 0, .int .i64 0, .slice none 0 0]) 3 40 Tryd.underlying26 hi hz0 hz1 hz2 rfl (by decide) (.slice none 0 0) 0 [] rfl (World.ownsRow_nil _ _ _ _) _ _ m _ rfl (HV1.out.row HM.out) (headCells_one _ _) (by unfold maxLen; omega) (by omega) hb1 ?_; intro o2 cc2 w2 hown2 hg2 hat2)
  have HS2 := Lib.hid (AS.first HS1.out HM.out hn2 HV1.out hown2 hg2 hat2 HQ.out)
  have HT2 : Hid ((ordsHead p n).length = m ∧ Tk top (ordsHead p n) (ordsTo p n 2)) := Lib.hid ⟨by rw [ordsHead_len]; exact HM.out, by rw [ordsTo_two]; exact Tk.refl _ _⟩
  clear hown2 hg2 hat2 HS1 HV1 hb1
  go_upto_block 0 with fail
  go_cut [9] (fun x wx => ∃ (S : Nat → Prop) (o : Option Addr) (c L : Nat) (l : List Tr), x = .slice o L c ∧ L ≤ top + 2 ∧ Hid (l.length = L ∧ Tk top l (ordsTo p n (max n 2)) ∧ AS p (.slice of mf cf) Q bk w.heap.size w S0 l0 S (.slice o L c) l wx))
  case first =>
    go_wp2_with fail
    go_loopw [9, 11, 12, 13, 14, 15] (fun x y _ _ _ _ wr => ∃ (a : Nat) (S : Nat → Prop) (o : Option Addr) (c L : Nat) (l : List Tr), 2 ≤ a ∧ (a ≤ n ∨ a = 2) ∧ y = .int .i64 a ∧ x = .slice o L c ∧ L ≤ top + 2 ∧ Hid (l.length = L ∧ Tk top l (ordsTo p n a) ∧ AS p (.slice of mf cf) Q bk w.heap.size w S0 l0 S (.slice o L c) l wr)) (fun _ y _ _ _ _ _ => n - (intOf y).toNat)
    case atStart => exact ⟨2, S0, o2, cc2, m, ordsHead p n, by omega, by omega, rfl, rfl, by omega, Lib.hid ⟨HT2.out.1, HT2.out.2, HS2.out⟩⟩
    case round =>
      clear HS2 HT2
      obtain ⟨a, S, o, c, L, l, ha2, han, rfl, rfl, hL2, HA⟩ := hrel
      by_cases hc : a < n ∧ L < top
      · obtain ⟨han', hLt⟩ := hc
        have d1 : decide ((a : Int) < (n : Int)) = true := by simpa using han'
        have d2 : decide ((L : Int) < (top : Int)) = true := by simpa using hLt
        go_upto_block 1 with fail
        go_cut [9] (fun x wx => ∃ (S' : Nat → Prop) (o' : Option Addr) (c' L' : Nat) (l' : List Tr), x = .slice o' L' c' ∧ L' ≤ top + 2 ∧ Hid (l'.length = L' ∧ Tk top l' (ordsTo p n (a + 1)) ∧ AS p (.slice of mf cf) Q bk w.heap.size w S0 l0 S' (.slice o' L' c') l' wx))
        case rest =>
          clear HA
          obtain ⟨S5, o5, c5, L5, l5, rfl, hL5, HB⟩ := hcut
          go_wp2_with fail
          go_roundw
          case rel => exact ⟨a + 1, S5, o5, c5, L5, l5, by omega, by omega, by go_num, rfl, hL5, HB⟩
          case measure => simp [intOf]; omega
        case first =>
        by_cases hdv : n % a = 0
        case neg =>
          have d : ((n : Int) % (a : Int) != 0) = true := by simp; omega
          have HA2 : Hid (l.length = L ∧ Tk top l (ordsTo p n (a + 1)) ∧ AS p (.slice of mf cf) Q bk w.heap.size w S0 l0 S (.slice o L c) l wr) := Lib.hid (by rw [ordsTo_step p n a (by omega), if_neg hdv]; exact HA.out)
          clear hdv HA
          go_wp2_with fail
          go_meet
          exact ⟨S, o, c, L, l, rfl, by omega, HA2⟩
        case pos =>
          have d : ((n : Int) % (a : Int) != 0) = false := by simp; omega
          have hdd : a ∣ n := Nat.dvd_of_mod_eq_zero hdv
          obtain ⟨q, hq⟩ : ∃ q, n / a = q := ⟨_, rfl⟩
          have hq1 : 1 ≤ q := by rw [← hq]; exact Nat.div_pos (Nat.le_of_dvd hn1 hdd) (by omega)
          have hq2 : q < n := by rw [← hq]; exact Nat.div_lt_self (by omega) (by omega)
          have ediv : IntKind.i64.wrap ((n : Int) / (a : Int)) = (q : Int) := by rw [← Int.natCast_ediv, hq]; exact IntWalk.i64_in _ (by omega)
          have ene : ¬ (a : Int) = 0 := by omega
          have ene2 : ¬ a = 0 := by omega
          have HO : Hid (ordsTo p n (a + 1) = ordsTo p n a ++ (p.heads a).flatMap fun k => (ords p q).map fun T => (leaf k a).times T) := Lib.hid (by rw [ordsTo_step p n a (by omega), if_pos hdv]; unfold ordsDiv; rw [if_neg (by omega), hq])
          obtain ⟨ks, hks⟩ : ∃ ks, p.heads a = ks := ⟨_, rfl⟩
          obtain ⟨m2, hmm⟩ : ∃ m2, ks.length = m2 := ⟨_, rfl⟩
          have HM2 := Lib.hid hmm
          have hm4 : m2 ≤ 2 := by rw [← hmm, ← hks]; exact heads_le _ _
          have HH : Hid (Calls Tryd.prog 52 #[.int .i64 a, .agg #[.int .i64 p.D, .slice of mf cf, .int .i64 p.P]] wr fun e w'' => ∃ o c, e = .returned (.slice o m2 c) ∧ Hid (HL w'' wr.heap.size (.slice o m2 c) a ks) ∧ Kp wr w'') := Lib.hid (by
            have := HLv.out a m2 S _ l wr (by rw [hks]; exact hmm) HA.out.2.2
            rw [hks] at this
            exact this)
          rw [hks] at HO
          obtain ⟨X, hX⟩ : ∃ X, ordsTo p n a = X := ⟨_, rfl⟩
          have HSr := Lib.hid (And.intro HA.out.2.2.slt (show ∀ g, (Value.slice o L c).ownBlock = some g → g < wr.heap.size from fun g e => by
            obtain ⟨es, h1, _⟩ := HA.out.2.2.ow
            exact (h1.lt g e).2))
          obtain ⟨c0, c1, c2⟩ := HA.out.2.2.cells
          rw [hX] at HO HA
          clear hdv hdd hq hks hmm hX
          go_upto_block 2 with (go_at_call 52; (with_reducible refine HH.out.mono ?_); rintro e w2 ⟨oh, ch, rfl, HV, hk2⟩)
          have HA2 := Lib.hid (And.intro HA.out.1 (And.intro HA.out.2.1 (HA.out.2.2.kp hk2)))
          clear HA HH c0 c1 c2 hk2
          go_wp2_with fail
          go_loopw [9, 13, 14, 15] (fun x y _ _ w4 => ∃ (i : Nat) (S' : Nat → Prop) (o' : Option Addr) (c' L' : Nat) (l' : List Tr), i ≤ m2 ∧ y = .int .i64 i ∧ x = .slice o' L' c' ∧ L' ≤ top + 2 ∧ Hid (l'.length = L' ∧ Tk top l' (X ++ (ks.take i).flatMap fun k => (ords p q).map fun T => (leaf k a).times T) ∧ AS p (.slice of mf cf) Q bk w.heap.size w S0 l0 S' (.slice o' L' c') l' w4 ∧ KO S (.slice o L c) w2 S' (.slice o' L' c') w4)) (fun _ y _ _ _ => m2 - (intOf y).toNat)
          case atStart => exact ⟨0, S, o, c, L, l, by omega, rfl, rfl, hL2, Lib.hid ⟨HA2.out.1, by simpa using HA2.out.2.1, HA2.out.2.2, KO.refl _ _ _⟩⟩
          case round =>
            clear HA2
            obtain ⟨i, S4, o4, c4, L4, l4, hi4, rfl, rfl, hL4, HB⟩ := hrel
            by_cases hc : i < m2 ∧ L4 < top
            · obtain ⟨hi4', hLt4⟩ := hc
              have d3 : decide ((i : Int) < (m2 : Int)) = true := by simpa using hi4'
              have d4 : decide ((L4 : Int) < (top : Int)) = true := by simpa using hLt4
              obtain ⟨t', ht'⟩ : ∃ t', top - L4 = t' := ⟨_, rfl⟩
              have htt : L4 + t' ≤ top ∧ top ≤ L4 + t' := by omega
              obtain ⟨htt1, htt2⟩ := htt
              have ht1' : 1 ≤ t' := by omega
              have esub : IntKind.i64.wrap ((top : Int) - (L4 : Int)) = (t' : Int) := by rw [show (top : Int) - (L4 : Int) = (t' : Int) by omega]; exact IntWalk.i64_in _ (by omega)
              have hik : i < ks.length := by rw [HM2.out]; exact hi4'
              obtain ⟨gh, rfl⟩ := hl_some HV.out (by rw [HM2.out]; omega)
              have hgh := (HV.out.lt gh rfl)
              have hgn : ¬ (S gh ∨ (Value.slice o L c).ownBlock = some gh) := fun e => by
                rcases e with e | e
                · have := HSr.out.1 _ e; omega
                · have := HSr.out.2 _ e; omega
              obtain ⟨k, hkk⟩ : ∃ k, ks[i] = k := ⟨_, rfl⟩
              have HHc : Hid (∀ S' v' w', KO S (.slice o L c) w2 S' v' w' → w'.cell? ⟨gh, i * 3, none⟩ = some (.int .i64 k) ∧ w'.cell? ⟨gh, i * 3 + 1, none⟩ = some (.int .i64 a) ∧ w'.cell? ⟨gh, i * 3 + 2, none⟩ = some (.slice none 0 0)) := Lib.hid fun S' v' w' h => by
                have hV := HV.out
                rw [← HM2.out] at hV
                have hcell := hV.cell i hik
                rw [hkk] at hcell
                exact ⟨h.later hcell.1 hgn, h.later hcell.2.1 hgn, h.later hcell.2.2 hgn⟩
              have HFk : Hid ((ks.take (i + 1)).flatMap (fun k => (ords p q).map fun T => (leaf k a).times T) = (ks.take i).flatMap (fun k => (ords p q).map fun T => (leaf k a).times T) ++ (ords p q).map fun T => (leaf k a).times T) := Lib.hid (by
                rw [List.take_succ_eq_append_getElem hik, List.flatMap_append, hkk, List.flatMap_cons, List.flatMap_nil, List.append_nil])
              have HCall : Hid (∀ w', Kp wr w' → Calls Tryd.prog 39 #[.pointer (some ⟨bk, 0, none⟩), .int .i64 q, .agg #[.int .i64 p.D, .slice of mf cf, .int .i64 p.P], .int .i64 t'] w' fun e w'' => ∃ o5 c5 N5 S5, e = .returned (.slice o5 N5 c5) ∧ N5 ≤ t' ∧
                  Hid (((ords p q).take t').length = N5 ∧ OL (fun g => (Q g ∧ (Value.slice o4 L4 c4).ownBlock ≠ some g) ∧ ¬ S5 g) w'' (.slice o5 N5 c5) ((ords p q).take t') ∧ AS p (.slice of mf cf) Q bk w.heap.size w S0 l0 S5 (.slice o4 L4 c4) l4 w'' ∧ KO S (.slice o L c) w2 S5 (.slice o4 L4 c4) w'')) := Lib.hid fun w' kw => by
                have hA := HB.out.2.2.1.kp kw
                obtain ⟨ext, hki⟩ := hA.ki
                refine (HRec.out q hq1 hq2 (fun g => Q g ∧ (Value.slice o4 L4 c4).ownBlock ≠ some g) S4 bk w' (l0 ++ ext) t' (fun g hg => ⟨HQ.out g (Nat.le_trans hA.kx.size hg), fun e => ?_⟩) (hA.fl HFl.out) hki ht1' (by omega)).mono ?_
                · obtain ⟨es, h1, _⟩ := hA.ow
                  have := (h1.lt g e).2
                  omega
                · rintro e w'' ⟨v, S5, ext5, rfl, hO, hK5, hX5⟩
                  have hO' := hO
                  obtain ⟨o5, c5, rfl, _⟩ := hO
                  exact ⟨o5, c5, _, S5, rfl, by rw [List.length_take]; omega, Lib.hid ⟨rfl, hO', hA.call ⟨ext, rfl⟩ hK5 hX5, (HB.out.2.2.2.kp kw).trans (KO.of hX5)⟩⟩
              have HPc : Hid (∀ w', Kp wr w' → w'.cell? ⟨w.heap.size, 0, none⟩ = some (.int .i64 p.D) ∧ w'.cell? ⟨w.heap.size, 1, none⟩ = some (.slice of mf cf) ∧ w'.cell? ⟨w.heap.size, 2, none⟩ = some (.int .i64 p.P)) := Lib.hid fun w' kw => (HB.out.2.2.1.kp kw).cells
              obtain ⟨c0, c1, c2⟩ := HPc.out _ (Kp.refl _)
              have kd := (Kp.refl wr).drew
              clear hkk ht' hik hgh
              go_upto_block 3 with fail
              go_cut [9] (fun x wx => ∃ (S' : Nat → Prop) (o' : Option Addr) (c' L' : Nat) (l' : List Tr), x = .slice o' L' c' ∧ L' ≤ top ∧ Hid (l'.length = L' ∧ Tk top l' (X ++ (ks.take (i + 1)).flatMap (fun k => (ords p q).map fun T => (leaf k a).times T)) ∧ AS p (.slice of mf cf) Q bk w.heap.size w S0 l0 S' (.slice o' L' c') l' wx ∧ KO S (.slice o L c) w2 S' (.slice o' L' c') wx))
              case rest =>
                clear HCall HPc HHc HFk c0 c1 c2 kd HB
                obtain ⟨S5, o5, c5, L5, l5, rfl, hL5, HB⟩ := hcut
                go_wp2_with fail
                go_roundw
                case rel => exact ⟨i + 1, S5, o5, c5, L5, l5, by omega, by go_num, rfl, by omega, HB⟩
                case measure => simp [intOf]; omega
              case first =>
                go_upto_region 12 with fail
                go_region_held3 (fun w' => w'.cell? ⟨w.heap.size, 0, none⟩ = some (.int .i64 p.D) ∧ w'.cell? ⟨w.heap.size, 1, none⟩ = some (.slice of mf cf) ∧ w'.cell? ⟨w.heap.size, 2, none⟩ = some (.int .i64 p.P)) (first | go_keep | exact HR5.out.2.2.1.cells)
                  (first | (go_at_call 39; (with_reducible refine (HCall.out _ kd).mono ?_); rintro e w5 ⟨o5, c5, N5, S5, rfl, hN5, HR5⟩))
                obtain ⟨bs, hbs⟩ : ∃ bs, (ords p q).take t' = bs := ⟨_, rfl⟩
                have HBS := Lib.hid hbs
                rw [hbs] at HR5
                have HR6 : Hid (l4.length = L4 ∧ Tk top l4 (X ++ (ks.take i).flatMap (fun k => (ords p q).map fun T => (leaf k a).times T))) := Lib.hid ⟨HB.out.1, HB.out.2.1⟩
                clear hbs HCall HPc c0 c1 c2 kd HB
                go_wp2_with fail
                go_loopw [9, 15] (fun x y w6 => ∃ (j : Nat) (o6 : Option Addr) (c6 L6 : Nat) (l6 : List Tr), j ≤ N5 ∧ y = .int .i64 j ∧ x = .slice o6 L6 c6 ∧ L6 ≤ L4 + j ∧ L4 + j ≤ L6 ∧ Hid (l6 = l4 ++ (bs.take j).map (fun T => (leaf k a).times T) ∧ l6.length = L6 ∧ AS p (.slice of mf cf) Q bk w.heap.size w S0 l0 S5 (.slice o6 L6 c6) l6 w6 ∧ KO S5 (.slice o4 L4 c4) w5 S5 (.slice o6 L6 c6) w6)) (fun _ y _ => N5 - (intOf y).toNat)
                case atStart => exact ⟨0, o4, c4, L4, l4, by omega, rfl, rfl, by omega, by omega, Lib.hid ⟨by simp, HR6.out.1, HR5.out.2.2.1, KO.refl _ _ _⟩⟩
                case round =>
                  obtain ⟨j, o6, c6, L6, l6, hj, rfl, rfl, hL6, hL6', HD⟩ := hrel
                  by_cases hlt : j < N5
                  · have d5 : decide ((j : Int) < (N5 : Int)) = true := by simpa using hlt
                    have hjb : j < bs.length := by rw [HR5.out.1]; exact hlt
                    obtain ⟨ob, cb, eb, hOL⟩ := HR5.out.2.1
                    obtain ⟨g5, eg, hg5, hOLc⟩ := hOL (by omega)
                    have e0 : o5 = ob ∧ N5 = bs.length ∧ c5 = cb := by simpa using eb
                    obtain ⟨rfl, e9, rfl⟩ := e0
                    clear e9
                    subst eg
                    obtain ⟨kb, nb, oo, mm, cc, q1, q2, q3, hOX⟩ := hOLc j hjb
                    have hgb : ¬ (S5 g5 ∨ (Value.slice o4 L4 c4).ownBlock = some g5) := fun e => e.elim hg5.2.2 hg5.2.1.2
                    have HKo := Lib.hid HD.out.2.2.2
                    have x1 := HKo.out.later q1 hgb
                    have x2 := HKo.out.later q2 hgb
                    have x3 := HKo.out.later q3 hgb
                    obtain ⟨y1, y2, y3⟩ := HHc.out _ _ _ (HR5.out.2.2.2.trans HKo.out)
                    have HT : Hid (OX (fun g => (Q g ∧ ¬ S5 g) ∧ (Value.slice o6 L6 c6).ownBlock ≠ some g) wr bs[j] (.agg #[.int .i64 kb, .int .i64 nb, .slice oo mm cc])) := Lib.hid (hOX.stay HKo.out.size (fun g hg hq => HKo.out.block g hg fun e => e.elim hq.2 hq.1.2) fun g hg hq => ⟨⟨hq.1.1, hq.2⟩, fun e => by
                      rcases HKo.out.grow g (.inr e) with h | h
                      · exact h.elim hq.2 hq.1.2
                      · omega⟩)
                    obtain ⟨es, hrow, hRr, hTC⟩ := HD.out.2.2.1.ow
                    rw [HD.out.2.1] at hrow
                    have HTC := Lib.hid hTC
                    have hbw : w.heap.size ≤ wr.heap.size := HD.out.2.2.1.kx.size
                    have HSl := Lib.hid HD.out.2.2.1.slt
                    have hel : es.length = L6 * 3 := hrow.1
                    obtain ⟨T5, hT5⟩ : ∃ T5, bs[j] = T5 := ⟨_, rfl⟩
                    rw [hT5] at HT
                    have HBo : Hid (∀ w', Kp wr w' → Calls Tryd.prog 54 #[.agg #[.int .i64 k, .int .i64 a, .slice none 0 0], .agg #[.int .i64 kb, .int .i64 nb, .slice oo mm cc]] w' fun e w'' => ∃ o7 c7, e = .returned (.agg #[.int .i64 3, .int .i64 0, .slice o7 2 c7]) ∧ Hid (OX (fun g => (Q g ∧ ¬ S5 g) ∧ (Value.slice o6 L6 c6).ownBlock ≠ some g) w'' ((leaf k a).times T5) (.agg #[.int .i64 3, .int .i64 0, .slice o7 2 c7])) ∧ Kp wr w'') := Lib.hid fun w' kw => by
                      refine (rboth_any (fun g => (Q g ∧ ¬ S5 g) ∧ (Value.slice o6 L6 c6).ownBlock ≠ some g) (leaf k a) T5 _ _ w' (fun g hg => ?_) (leaf_ox _ _ _ _ (by omega) (by omega)) (HT.out.kp kw)).mono ?_
                      · have := kw.size
                        exact ⟨⟨HQ.out g (by omega), fun e => by have := HSl.out g e; omega⟩, fun e => by have := (hrow.lt g e).2; omega⟩
                      · rintro e w'' ⟨o7, c7, rfl, h1, h2⟩
                        exact ⟨o7, c7, rfl, Lib.hid h1, kw.trans h2⟩
                    have HJ : Hid (l6 ++ [(leaf k a).times T5] = l4 ++ (bs.take (j + 1)).map fun T => (leaf k a).times T) := Lib.hid (by rw [HD.out.1, List.take_succ_eq_append_getElem hjb, List.map_append, hT5, List.append_assoc]; rfl)
                    have kd := (Kp.refl wr).drew
                    have h63 : L6 + 1 ≤ maxLen := by unfold maxLen; omega
                    have HPz : Hid (∀ S' v' w', KO S5 (.slice o6 L6 c6) wr S' v' w' → (w'.cell? ⟨gh, i * 3, none⟩ = some (.int .i64 k) ∧ w'.cell? ⟨gh, i * 3 + 1, none⟩ = some (.int .i64 a) ∧ w'.cell? ⟨gh, i * 3 + 2, none⟩ = some (.slice none 0 0)) ∧ (w'.cell? ⟨g5, j * 3, none⟩ = some (.int .i64 kb) ∧ w'.cell? ⟨g5, j * 3 + 1, none⟩ = some (.int .i64 nb) ∧ w'.cell? ⟨g5, j * 3 + 2, none⟩ = some (.slice oo mm cc))) := Lib.hid fun S' v' w' ko => ⟨HHc.out _ _ _ ((HR5.out.2.2.2.trans HKo.out).trans ko), (HKo.out.trans ko).later q1 hgb, (HKo.out.trans ko).later q2 hgb, (HKo.out.trans ko).later q3 hgb⟩
                    clear q1 q2 q3 hOX hOL hOLc eb hg5 hgb hTC hRr hT5 hjb
                    go_upto_region 16 with fail
                    go_region_held3 (fun w' => (w'.cell? ⟨gh, i * 3, none⟩ = some (.int .i64 k) ∧ w'.cell? ⟨gh, i * 3 + 1, none⟩ = some (.int .i64 a) ∧ w'.cell? ⟨gh, i * 3 + 2, none⟩ = some (.slice none 0 0)) ∧ (w'.cell? ⟨g5, j * 3, none⟩ = some (.int .i64 kb) ∧ w'.cell? ⟨g5, j * 3 + 1, none⟩ = some (.int .i64 nb) ∧ w'.cell? ⟨g5, j * 3 + 2, none⟩ = some (.slice oo mm cc))) (first | go_keep | exact HPz.out _ _ _ ko8 | exact HPz.out _ _ _ ((KO.refl _ _ _).kp kd) | exact HPz.out _ _ _ ((KO.refl _ _ _).kp hk7) | exact HPz.out _ _ _ ((KO.refl _ _ _).kp (hk7.alloc _)))
                      (first
                      | (go_at_call 54; (with_reducible refine (HBo.out _ kd).mono ?_); rintro e w7 ⟨o7, c7, rfl, HX7, hk7⟩; have hrow7 := (hk7.alloc (.cells #[.int .i64 3, .int .i64 0, .slice o7 2 c7] 28)).owns hrow)
                      | (refine step_append_lies _ (by rfl) _ _ 26 (by rfl) w.heap.size 28 i0 (.agg #[.int .i64 0, .int .i64 0, .slice none 0 0]) 3 40 Tryd.underlying26 hi hz0 hz1 hz2 rfl (by decide) (.slice o6 L6 c6) L6 es (by rfl) hrow7 ⟨w7.heap.size, 0, none⟩ 1 1 [.int .i64 3, .int .i64 0, .slice o7 2 c7] (by rfl) (by rfl) (World.news_of_block (heap_alloc_new w7 _)) (by intro u hu; simp at hu; rcases hu with rfl | rfl | rfl <;> rfl) (by decide) h63 (by omega) (by have := hk7.size; simp; omega) _ rfl ?_; intro g8 cap8 w8 hown8 hg8 hat8 hlt8; have ko8 : KO S5 (.slice o6 L6 c6) wr S5 (.slice (some ⟨g8, 0, none⟩) (L6 + 1) cap8) w8 := KO.push (hk7.alloc (.cells #[.int .i64 3, .int .i64 0, .slice o7 2 c7] 28)) hg8 (fun g e => by cases e; exact hat8)))
                    all_goals go_wp2_with fail
                    have HN := Lib.hid (HD.out.2.2.1.pushed1 HD.out.2.1 hrow HTC.out (hk7.alloc (.cells #[.int .i64 3, .int .i64 0, .slice o7 2 c7] 28)) (HX7.out.kp ((Kp.refl w7).alloc _)) hown8 hg8 hat8 HQ.out)
                    have HL8 : Hid ((l6 ++ [(leaf k a).times T5]).length = L6 + 1) := Lib.hid (by rw [List.length_append, HD.out.2.1]; rfl)
                    have hlt' := hlt
                    go_roundw
                    case rel => exact ⟨j + 1, _, cap8, L6 + 1, _, by omega, by go_num, rfl, by omega, by omega, Lib.hid ⟨HJ.out, HL8.out, HN.out.1, HKo.out.trans HN.out.2⟩⟩
                    case measure => simp [intOf]; omega
                  · have hlen : L6 ≤ top := by omega
                    have HE : Hid (l6.length = L6 ∧ Tk top l6 (X ++ (ks.take (i + 1)).flatMap (fun k => (ords p q).map fun T => (leaf k a).times T)) ∧ AS p (.slice of mf cf) Q bk w.heap.size w S0 l0 S5 (.slice o6 L6 c6) l6 wr ∧ KO S (.slice o L c) w2 S5 (.slice o6 L6 c6) wr) := Lib.hid ⟨HD.out.2.1, by
                      rw [HFk.out, ← List.append_assoc, HD.out.1, List.take_of_length_le (by rw [HR5.out.1]; omega)]
                      have h1 : Tk t' (bs.map fun T => (leaf k a).times T) ((ords p q).map fun T => (leaf k a).times T) := by
                        rw [← HBS.out, List.map_take]
                        exact Tk.of_take _ _
                      refine HR6.out.2.add (by rw [HR6.out.1]; exact hLt4) ?_
                      rw [HR6.out.1, show top - L4 = t' by omega]
                      exact h1, HD.out.2.2.1, HR5.out.2.2.2.trans HD.out.2.2.2⟩
                    clear HD HR5 HR6 HBS
                    go_wp2_with fail
                    go_meet
                    exact ⟨S5, o6, c6, L6, l6, rfl, hlen, HE⟩
            · have key : (¬ i < m2 ∧ decide ((i : Int) < (m2 : Int)) = false) ∨ (i < m2 ∧ ¬ L4 < top ∧ decide ((i : Int) < (m2 : Int)) = true ∧ decide ((L4 : Int) < (top : Int)) = false) := by simp; omega
              have hTk : Tk top l4 (ordsTo p n (a + 1)) := by
                rw [HO.out]
                by_cases e : i < m2
                · have hs : ks.flatMap (fun k => (ords p q).map fun T => (leaf k a).times T) = (ks.take i).flatMap (fun k => (ords p q).map fun T => (leaf k a).times T) ++ (ks.drop i).flatMap fun k => (ords p q).map fun T => (leaf k a).times T := by rw [← List.flatMap_append, List.take_append_drop]
                  rw [hs, ← List.append_assoc]
                  exact HB.out.2.1.stop (by rw [HB.out.1]; omega) _
                · have := HB.out.2.1
                  rw [List.take_of_length_le (by rw [HM2.out]; omega)] at this
                  exact this
              have HB2 := Lib.hid (And.intro HB.out.1 (And.intro hTk HB.out.2.2.1))
              clear hTk hc HB
              rcases key with ⟨e1, d3⟩ | ⟨e1, e2, d3, d4⟩
              · go_wp2_with fail
                go_meet
                exact ⟨S4, o4, c4, L4, l4, rfl, hL4, HB2⟩
              · go_wp2_with fail
                go_meet
                exact ⟨S4, o4, c4, L4, l4, rfl, hL4, HB2⟩
      · have key : (¬ a < n ∧ decide ((a : Int) < (n : Int)) = false) ∨ (a < n ∧ ¬ L < top ∧ decide ((a : Int) < (n : Int)) = true ∧ decide ((L : Int) < (top : Int)) = false) := by simp; omega
        have hTk : Tk top l (ordsTo p n (max n 2)) := by
          obtain ⟨Y, hY⟩ := ordsTo_more p n (a := a) (b := max n 2) (by omega) (by omega)
          rw [hY]
          by_cases e : a < n
          · exact HA.out.2.1.stop (by rw [HA.out.1]; omega) Y
          · have e2 : a = max n 2 := by omega
            have e3 : Y = [] := by
              rw [← e2] at hY
              have := congrArg List.length hY
              rw [List.length_append] at this
              exact List.eq_nil_of_length_eq_zero (by omega)
            rw [e3, List.append_nil]
            exact HA.out.2.1
        have HB : Hid (l.length = L ∧ Tk top l (ordsTo p n (max n 2)) ∧ AS p (.slice of mf cf) Q bk w.heap.size w S0 l0 S (.slice o L c) l wr) := Lib.hid ⟨HA.out.1, hTk, HA.out.2.2⟩
        clear hTk
        clear hc HA
        rcases key with ⟨e1, d1⟩ | ⟨e1, e2, d1, d2⟩
        · go_wp2_with fail
          go_meet
          exact ⟨S, o, c, L, l, rfl, hL2, HB⟩
        · go_wp2_with fail
          go_meet
          exact ⟨S, o, c, L, l, rfl, hL2, HB⟩
  case rest =>
    clear HS2 HT2
    obtain ⟨S5, o5, c5, L5, l5, rfl, hL5, HB⟩ := hcut
    obtain ⟨hd, hhd⟩ : ∃ b, p.hard n = b := ⟨_, rfl⟩
    have HHd := Lib.hid hhd
    have HBl : Hid (Calls Tryd.prog 55 #[.int .i64 n, .agg #[.int .i64 p.D, .slice of mf cf, .int .i64 p.P]] wc fun e w' => e = .returned (.bool hd) ∧ Kp wc w') := Lib.hid (by
      rw [← hhd]
      exact rblue_any p (.slice of mf cf) n wc hn1 (by omega) (HB.out.2.2.fl HFl.out).fl)
    obtain ⟨c0, c1, c2⟩ := HB.out.2.2.cells
    clear hhd
    go_upto_if 86 with (go_at_call 55; (with_reducible refine HBl.out.mono ?_); rintro e w2 ⟨rfl, hk2⟩)
    have HB2 : Hid (l5.length = L5 ∧ Tk top l5 (ordsTo p n (max n 2)) ∧ AS p (.slice of mf cf) Q bk w.heap.size w S0 l0 S5 (.slice o5 L5 c5) l5 w2) := Lib.hid ⟨HB.out.1, HB.out.2.1, HB.out.2.2.kp hk2⟩
    clear c0 c1 c2 HBl hk2 HB
    go_cut [9] (fun x wx => ∃ (S' : Nat → Prop) (o' : Option Addr) (c' L' : Nat) (l' : List Tr), x = .slice o' L' c' ∧ L' ≤ top + 3 ∧ Hid (l'.length = L' ∧ l'.take top = (ords p n).take top ∧ AS p (.slice of mf cf) Q bk w.heap.size w S0 l0 S' (.slice o' L' c') l' wx))
    case first =>
      as_aux_lemma =>
        cases hd with
        | false =>
          have HE : Hid (l5.length = L5 ∧ l5.take top = (ords p n).take top ∧ AS p (.slice of mf cf) Q bk w.heap.size w S0 l0 S5 (.slice o5 L5 c5) l5 w2) := Lib.hid ⟨HB2.out.1, by
            rw [ordsTo_end p hn1]
            unfold ordsBlue
            rw [HHd.out, if_neg (by decide), List.append_nil]
            exact HB2.out.2.1.done, HB2.out.2.2⟩
          clear HHd HB2
          go_wp2_with fail
          go_meet
          exact ⟨S5, o5, c5, L5, l5, rfl, by omega, HE⟩
        | true =>
          obtain ⟨hrn, hn8⟩ := hard_rank hn1 hp.p1 HHd.out
          obtain ⟨t1, t2, kk, t3⟩ := twoOf_is (N := 2 * n - 1) (by omega) (by omega)
          have hx2 : twoOf (2 * n - 1) ≤ 16384 := two_top ⟨t1, t2, kk, t3⟩ (by omega)
          have hsome := two_some hp kk
          rw [← t3] at hsome
          have hSz : ∀ w', Calls Tryd.prog 56 #[.int .i64 n] w' fun e w'' => e = .returned (.tuple #[.int .i64 (twoOf (2 * n - 1) : Nat), .int .i64 0]) ∧ w' = w'' := fun w' => rSize_any n _ w' hn1 hn8 ⟨t1, t2, kk, t3⟩
          obtain ⟨x, hx⟩ : ∃ x, twoOf (2 * n - 1) = x := ⟨_, rfl⟩
          rw [hx] at hx2 hsome
          simp only [hx] at hSz
          have hx1 : 1 ≤ x := by omega
          have HSz := Lib.hid hSz
          obtain ⟨Ty, hTy⟩ := Option.isSome_iff_exists.1 hsome
          obtain ⟨T, y⟩ := Ty
          have HEq : Hid (ords p n = ordsTo p n (max n 2) ++ [T.blue n]) := Lib.hid (by
            rw [ordsTo_end p hn1]
            unfold ordsBlue blueOf
            rw [HHd.out, if_pos rfl, hx, hTy]
            rfl)
          have HRc : Hid (Calls Tryd.prog 32 #[.pointer (some ⟨bk, 0, none⟩), .int .i64 x, .agg #[.int .i64 p.D, .slice of mf cf, .int .i64 p.P]] w2 fun e w'' => ∃ k0 n0 o mm c cost S2, e = .returned (.tuple #[.agg #[.int .i64 k0, .int .i64 n0, .slice o mm c], .int .i64 cost]) ∧
              Hid (OX (fun g => (Q g ∧ (Value.slice o5 L5 c5).ownBlock ≠ some g) ∧ ¬ S2 g) w'' T (.agg #[.int .i64 k0, .int .i64 n0, .slice o mm c]) ∧ AS p (.slice of mf cf) Q bk w.heap.size w S0 l0 S2 (.slice o5 L5 c5) l5 w'')) := Lib.hid (by
            have hA := HB2.out.2.2
            obtain ⟨ext, hki⟩ := hA.ki
            refine (HCh.out x hx1 hx2 (fun g => Q g ∧ (Value.slice o5 L5 c5).ownBlock ≠ some g) S5 bk w2 (l0 ++ ext) (fun g hg => ⟨HQ.out g (Nat.le_trans hA.kx.size hg), fun e => ?_⟩) (hA.fl HFl.out) hki).mono ?_
            · obtain ⟨es, h1, _⟩ := hA.ow
              have := (h1.lt g e).2
              omega
            · rintro e w'' ⟨k0, n0, o, mm, c, cost, S2, ext2, rfl, h1, h2, h3, _⟩
              rw [hTy] at h1
              exact ⟨k0, n0, o, mm, c, cost, S2, rfl, Lib.hid ⟨h1.2.2.2, hA.call ⟨ext, rfl⟩ h2 h3⟩⟩)
          have HB3 := Lib.hid (And.intro HB2.out.1 HB2.out.2.1)
          obtain ⟨c0, c1, c2⟩ := HB2.out.2.2.cells
          clear hx t1 t2 t3 hrn hsome hSz hTy kk HHd HB2
          go_upto_region 20 with (first
            | (go_at_call 56; (with_reducible refine (HSz.out _).mono ?_); rintro e w3 ⟨rfl, rfl⟩)
            | (go_at_call 32; (with_reducible refine HRc.out.mono ?_); rintro e w4 ⟨k4, n4, o4, m4, c4, y4, S4, rfl, HA4⟩))
          have kw := (Kp.refl w4).alloc (.cells #[.int .i64 k4, .int .i64 n4, .slice o4 m4 c4] 28)
          have hE := heap_alloc_new w4 (.cells #[.int .i64 k4, .int .i64 n4, .slice o4 m4 c4] 28)
          have HS6 := Lib.hid (HA4.out.2.kp kw)
          have HO6 := Lib.hid (HA4.out.1.kp kw)
          clear HA4 HRc HSz c0 c1 c2 kw
          generalize w4.alloc (.cells #[.int .i64 k4, .int .i64 n4, .slice o4 m4 c4] 28) = w6 at *
          generalize w4.heap.size = E at *
          obtain ⟨⟨e0, e1, e2⟩, _⟩ := row3_facts hE
          clear hE
          obtain ⟨es, hrow, hRr, hTC⟩ := HS6.out.ow
          rw [HB3.out.1] at hrow
          have HTC := Lib.hid hTC
          have h63 : L5 + 1 ≤ maxLen := by unfold maxLen; omega
          have hbw : w.heap.size ≤ w6.heap.size := HS6.out.kx.size
          have kA := ((Kp.refl w6).alloc (.cells #[.int .i64 k4, .int .i64 n4, .slice o4 m4 c4] 28)).alloc (.cells #[.int .i64 4, .int .i64 n, .slice (some ⟨w6.heap.size, 0, none⟩) 1 1] 28)
          have hrow7 := kA.owns hrow
          clear hTC hRr
          go_upto_region 21 with (at_builtin; refine wpList_append_lies _ rfl (.tmp 99) (.tmp 104) 26 rfl w.heap.size 28 i0 (.agg #[.int .i64 0, .int .i64 0, .slice none 0 0]) 3 40 Tryd.underlying26 hi hz0 hz1 hz2 rfl (by decide) _ L5 es rfl hrow7 ⟨w6.heap.size + 1, 0, none⟩ 1 1 [.int .i64 4, .int .i64 n, .slice (some ⟨w6.heap.size, 0, none⟩) 1 1] rfl rfl (World.news_of_block (heap_alloc2_new w6 _ _)) (by intro u hu; simp at hu; rcases hu with rfl | rfl | rfl <;> rfl) (by decide) h63 (by omega) (by simp; omega) _ rfl ?_; intro g8 cap8 w8 hown8 hg8 hat8 hlt8)
          have hB := heap_alloc2_old w6 (.cells #[.int .i64 k4, .int .i64 n4, .slice o4 m4 c4] 28) (.cells #[.int .i64 4, .int .i64 n, .slice (some ⟨w6.heap.size, 0, none⟩) 1 1] 28)
          have hOX : OX (fun g => (Q g ∧ ¬ S4 g) ∧ (Value.slice o5 L5 c5).ownBlock ≠ some g) ((w6.alloc (.cells #[.int .i64 k4, .int .i64 n4, .slice o4 m4 c4] 28)).alloc (.cells #[.int .i64 4, .int .i64 n, .slice (some ⟨w6.heap.size, 0, none⟩) 1 1] 28)) (T.blue n) (.agg #[.int .i64 4, .int .i64 n, .slice (some ⟨w6.heap.size, 0, none⟩) 1 1]) :=
            blue_ox ⟨⟨HQ.out _ hbw, fun e => by have := HS6.out.slt _ e; omega⟩, fun e => by have := (hrow.lt _ e).2; omega⟩ (by omega) (by omega) hB ((HO6.out.mono fun g _ hq => ⟨⟨hq.1.1, hq.2⟩, hq.1.2⟩).kp kA)
          have HN := Lib.hid (HS6.out.pushed1 HB3.out.1 hrow HTC.out kA hOX hown8 hg8 hat8 HQ.out).1
          have HFin : Hid ((l5 ++ [T.blue n]).length = L5 + 1 ∧ (l5 ++ [T.blue n]).take top = (ords p n).take top) := Lib.hid ⟨by rw [List.length_append, HB3.out.1]; rfl, by rw [HEq.out]; exact (HB3.out.2.snoc _).done⟩
          go_meet
          exact ⟨S4, some ⟨g8, 0, none⟩, cap8, L5 + 1, _, rfl, by omega, Lib.hid ⟨HFin.out.1, HFin.out.2, HN.out⟩⟩
    case rest =>
      obtain ⟨S6, o6, c6, L6, l6, rfl, hL6, HC⟩ := hcut
      have HX : Hid (∃ ext, KI p Q S6 bk wc (l0 ++ ext)) := Lib.hid (by
        obtain ⟨ext, h⟩ := HC.out.2.2.ki
        exact ⟨ext, h.mono fun g _ hq => hq.1⟩)
      clear HB2
      by_cases hgt : top < L6
      · have d1 : decide ((top : Int) < (L6 : Int)) = true := by simpa using hgt
        obtain ⟨es, hrow, _, _⟩ := HC.out.2.2.ow
        rw [HC.out.1] at hrow
        obtain ⟨g6, cap6, e6, hg6, hl6⟩ := hrow.form (by omega)
        have e7 : o6 = some ⟨g6, 0, none⟩ ∧ c6 = cap6 := by simpa using e6
        obtain ⟨rfl, rfl⟩ := e7
        have hcap : L6 ≤ c6 := by
          rcases hrow.2 with ⟨h1, _⟩ | ⟨g, cap, cur, h1, _, _, h2, _⟩
          · cases h1
          · cases h1; exact h2
        have HOL : Hid (OL (fun g => Q g ∧ ¬ S6 g) wc (.slice (some ⟨g6, 0, none⟩) top c6) ((ords p n).take top)) := Lib.hid (by
          rw [← HC.out.2.1]
          exact HC.out.2.2.ow.hand top c6 (by rw [HC.out.1]; omega))
        clear hrow hg6 hl6 e6
        go_wp2_with fail
        go_ret
        obtain ⟨ext, hk⟩ := HX.out
        first
          | exact ⟨_, S6, ext, rfl, HOL.out, hk, HC.out.2.2.kx⟩
          | exact ⟨_, rfl, S6, ⟨ext, hk⟩, HC.out.2.2.kx⟩
          | exact ⟨_, rfl, S6, HOL.out, ⟨ext, hk⟩, HC.out.2.2.kx⟩
      · have d1 : decide ((top : Int) < (L6 : Int)) = false := by simp; omega
        have HOL : Hid (OL (fun g => Q g ∧ ¬ S6 g) wc (.slice o6 L6 c6) ((ords p n).take top)) := Lib.hid (by
          have h := HC.out.2.2.ow.hand L6 c6 (by rw [HC.out.1]; omega)
          rw [← HC.out.2.1, List.take_of_length_le (show l6.length ≤ top by rw [HC.out.1]; omega)]
          rw [List.take_of_length_le (show l6.length ≤ L6 by rw [HC.out.1]; omega)] at h
          exact h)
        go_wp2_with fail
        go_ret
        obtain ⟨ext, hk⟩ := HX.out
        first
          | exact ⟨_, S6, ext, rfl, HOL.out, hk, HC.out.2.2.kx⟩
          | exact ⟨_, rfl, S6, ⟨ext, hk⟩, HC.out.2.2.kx⟩
          | exact ⟨_, rfl, S6, HOL.out, ⟨ext, hk⟩, HC.out.2.2.kx⟩
theorem rall_any (p : Pol) (hp : p.Good) (vf : Value) (hch : ∀ m, 1 ≤ m → m ≤ 16384 → RSpec p vf m) (n : Nat) : 1 ≤ n → n ≤ 4096 → RAll p vf n := by
  induction n using Nat.strongRecOn with
  | ind n ih => intro h1 h2; exact rall_step p hp vf n h1 h2 (fun m hm hlt => ih m hlt hm (by omega)) hch
end Go.Proofs.YtgjlldapnodfbaaDoor
