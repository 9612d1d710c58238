import Derived.Test.YtgjlldapnodfbaaDoorOBest3
import Derived.Test.YtgjlldapnodfbaaDoorORefF
import Derived.Maps.AppendAt
import Derived.Laws.AppendOwnNone
/-
  All orders of a length, in order, as a plain function; what is left of a list where no more than so many are wanted.
-/
namespace Go.Ord
open Go.Pr
/-- The tree of a chosen order. -/
def treeOf : Option (Tr × Int) → Tr
  | none => .mk 0 0 0 (fun _ => .nil)
  | some (T, _) => T
/-- Bluestein's way for n. -/
def blueOf (p : Pol) (n : Nat) : Tr := (treeOf (best p (twoOf (2 * n - 1)))).blue n
/-- The products with a first part of length a. -/
def ordsDiv (p : Pol) (rec : Nat → List Tr) (n a : Nat) : List Tr :=
  if a < 2 ∨ a = n then [] else (p.heads a).flatMap fun k => (rec (n / a)).map fun T => (leaf k a).times T
def ordsHead (p : Pol) (n : Nat) : List Tr := (p.heads n).map fun k => leaf k n
def ordsBlue (p : Pol) (n : Nat) : List Tr := if p.hard n then [blueOf p n] else []
def ordsStep (p : Pol) (rec : Nat → List Tr) (n : Nat) : List Tr := ordsHead p n ++ (divs n).flatMap (ordsDiv p rec n) ++ ordsBlue p n
def ordsF (p : Pol) : Nat → Nat → List Tr
  | 0, _ => []
  | f + 1, n => ordsStep p (ordsF p f) n
theorem flatMap_same {α β : Type} {f g : α → List β} : ∀ {l : List α}, (∀ a ∈ l, f a = g a) → l.flatMap f = l.flatMap g
  | [], _ => rfl
  | a :: l, h => by
    rw [List.flatMap_cons, List.flatMap_cons, h a (List.mem_cons_self ..), flatMap_same fun x hx => h x (List.mem_cons_of_mem _ hx)]
theorem ordsStep_same {p : Pol} {r r' : Nat → List Tr} {n : Nat} (hn : 1 ≤ n) (h : ∀ m, 1 ≤ m → m < n → r m = r' m) : ordsStep p r n = ordsStep p r' n := by
  unfold ordsStep
  rw [flatMap_same (g := ordsDiv p r' n) fun a ha => ?_]
  have hd := (mem_divs (by omega)).1 ha
  unfold ordsDiv
  split
  · rfl
  · rename_i hc
    rw [h (n / a) (Nat.div_pos (Nat.le_of_dvd hn hd) (by omega)) (Nat.div_lt_self hn (by omega))]
theorem ordsF_same {p : Pol} : ∀ (f g n : Nat), 1 ≤ n → n ≤ f → n ≤ g → ordsF p f n = ordsF p g n
  | 0, _, n, h, h1, _ => by omega
  | _ + 1, 0, n, h, _, h2 => by omega
  | f + 1, g + 1, n, hn, h1, h2 => ordsStep_same hn fun m hm hlt => ordsF_same f g m hm (by omega) (by omega)
/-- All orders of a length, in order. -/
def ords (p : Pol) (n : Nat) : List Tr := ordsF p n n
theorem ords_eq {p : Pol} {n : Nat} (hn : 1 ≤ n) : ords p n = ordsStep p (ords p) n := by
  obtain ⟨m, rfl⟩ : ∃ m, n = m + 1 := ⟨n - 1, by omega⟩
  show ordsStep p (ordsF p m) (m + 1) = _
  exact ordsStep_same hn fun q hq hlt => ordsF_same m q q hq (by omega) (Nat.le_refl _)
/-- The orders up to the divisors below a. -/
def ordsTo (p : Pol) (n a : Nat) : List Tr := ordsHead p n ++ ((List.range' 1 (a - 1)).filter (fun d => n % d == 0)).flatMap (ordsDiv p (ords p) n)
theorem ordsTo_two (p : Pol) (n : Nat) : ordsTo p n 2 = ordsHead p n := by
  unfold ordsTo
  have e : (List.range' 1 (2 - 1)).filter (fun d => n % d == 0) = [1] := by simp [List.range', Nat.mod_one]
  rw [e]
  show ordsHead p n ++ (ordsDiv p (ords p) n 1 ++ []) = _
  unfold ordsDiv
  rw [if_pos (.inl (by decide)), List.append_nil, List.append_nil]
theorem ordsTo_step (p : Pol) (n a : Nat) (h : 1 ≤ a) : ordsTo p n (a + 1) = if n % a = 0 then ordsTo p n a ++ ordsDiv p (ords p) n a else ordsTo p n a := by
  unfold ordsTo
  obtain ⟨b, rfl⟩ : ∃ b, a = b + 1 := ⟨a - 1, by omega⟩
  rw [Nat.add_sub_cancel, Nat.add_sub_cancel, List.range'_1_concat, List.filter_append, List.flatMap_append]
  by_cases hm : n % (b + 1) = 0
  · rw [if_pos hm]
    have e : [1 + b].filter (fun d => n % d == 0) = [b + 1] := by
      rw [Nat.add_comm 1 b, List.filter_cons_of_pos (by simpa using hm)]; rfl
    rw [e, List.flatMap_cons, List.flatMap_nil, List.append_nil, List.append_assoc]
  · rw [if_neg hm]
    have e : [1 + b].filter (fun d => n % d == 0) = [] := by
      rw [Nat.add_comm 1 b, List.filter_cons_of_neg (by simpa using hm)]; rfl
    rw [e, List.flatMap_nil, List.append_nil]
theorem ordsTo_end (p : Pol) {n : Nat} (hn : 1 ≤ n) : ords p n = ordsTo p n (max n 2) ++ ordsBlue p n := by
  rw [ords_eq hn]
  unfold ordsStep
  congr 1
  have e : ordsHead p n ++ (divs n).flatMap (ordsDiv p (ords p) n) = ordsTo p n (n + 1) := by unfold ordsTo divs; rw [Nat.add_sub_cancel]
  rw [e]
  by_cases h : n = 1
  · subst h; rfl
  · rw [Nat.max_eq_left (by omega), ordsTo_step p n n hn]
    split
    · unfold ordsDiv; rw [if_pos (.inr rfl), List.append_nil]
    · rfl
/-! ### No more than so many -/
/-- l is what a look at the first t of X has brought. -/
def Tk {α : Type} (t : Nat) (l X : List α) : Prop := l.take t = X.take t ∧ (l.length < t → l = X)
theorem Tk.refl {α : Type} (t : Nat) (l : List α) : Tk t l l := ⟨rfl, fun _ => rfl⟩
theorem take_len {α : Type} {t : Nat} {l X : List α} (h : l.take t = X.take t) (hl : t ≤ l.length) : t ≤ X.length := by
  have := congrArg List.length h
  rw [List.length_take, List.length_take] at this
  omega
theorem Tk.stop {α : Type} {t : Nat} {l X : List α} (h : Tk t l X) (hl : t ≤ l.length) (Y : List α) : Tk t l (X ++ Y) := by
  refine ⟨?_, fun h2 => by omega⟩
  rw [List.take_append_of_le_length (take_len h.1 hl)]
  exact h.1
theorem Tk.add {α : Type} {t : Nat} {l l' X Y : List α} (h : Tk t l X) (hl : l.length < t) (h' : Tk (t - l.length) l' Y) : Tk t (l ++ l') (X ++ Y) := by
  obtain rfl := h.2 hl
  refine ⟨?_, fun h2 => ?_⟩
  · rw [List.take_append, List.take_append, h'.1]
  · rw [h'.2 (by rw [List.length_append] at h2; omega)]
theorem Tk.snoc {α : Type} {t : Nat} {l X : List α} (h : Tk t l X) (Y : List α) : Tk t (l ++ Y) (X ++ Y) := by
  rcases Nat.lt_or_ge l.length t with c | c
  · obtain rfl := h.2 c
    exact Tk.refl _ _
  · refine ⟨?_, fun h2 => ?_⟩
    · rw [List.take_append_of_le_length c, List.take_append_of_le_length (take_len h.1 c)]
      exact h.1
    · rw [List.length_append] at h2; omega
theorem Tk.done {α : Type} {t : Nat} {l X : List α} (h : Tk t l X) : l.take t = X.take t := h.1
end Go.Ord
/-
  Lists of orders in memory: a row that a call owns, and what is handed back; append of a list that may be nil.
-/
namespace Go.Proofs.YtgjlldapnodfbaaDoor
open Go Go.RowKit Go.Fl Go.Ord Go.Pr

section
variable {P : Program} {w : World}
/-- An append of a list that may be nil, and where the new one lies. -/
theorem wpList_append_any {ops : Array Oper} {rest : List Oper} {o : Oper} {a : Act} {Q : Exit → Act → World → Prop} (hgd : o.guard = none) (s x : Operand) (t : TypeId)
    (ho : o.op = .call { callee := .builtin .append, args := #[s, x], argTypes := #[t, t] })
    (base : Nat) (e : TypeId) (i : TypeInfo) (z : Value) (size bytes : Nat) (ht : P.underlying t = some (.slice e)) (hi : P.info? e = some i) (hz : i.zero = some z)
    (hsize : i.size = size) (hby : i.bytes = bytes) (hzs : z.cells.size = size) (hsz : 0 < size)
    (v : Value) (n : Nat) (xs : List Value) (hs : a.eval s = v) (hown : w.ownsRow base e size v n xs)
    (base2 : Nat) (u : Value) (m : Nat) (ys : List Value) (hx : a.eval x = u) (hsrc : w.ownsRow base2 e size u m ys) (h1 : ∀ u ∈ ys, u.oneCell' = true)
    (h63 : n + m ≤ maxLen) (hbytes : (n + m) * bytes ≤ 140737488355328) (hbase : base ≤ w.heap.size)
    (h : ∀ o' c' w', w'.ownsRow base e size (.slice o' (n + m) c') (n + m) (xs ++ ys) → w.grownBy w' v.ownBlock → (∀ g, (Value.slice o' (n + m) c').ownBlock = some g → v.ownBlock = some g ∨ g = w.heap.size) → wpList P ops Q rest (a.put o.dst (.slice o' (n + m) c')) w') : wpList P ops Q (o :: rest) a w := by
  rcases hsrc.2 with ⟨h2, h3⟩ | ⟨g, cap, cur, h2, _⟩
  · have hy : ys = [] := by have := hsrc.1; rw [h3, Nat.zero_mul] at this; exact List.eq_nil_of_length_eq_zero this
    refine wpList_append_own_none hgd s x t ho base e i size ht hi v n xs hs hown (by rw [hx, h2]) ?_
    obtain ⟨o', c', rfl⟩ := owns_form2 hown
    have := h o' c' w (by rw [h3, hy, List.append_nil, Nat.add_zero]; exact hown) ⟨rfl, rfl, rfl, Nat.le_refl _, fun _ _ _ => rfl⟩ (fun g hg => by rw [h3, Nat.add_zero] at hg; exact .inl hg)
    rw [h3, Nat.add_zero] at this
    exact this
  · refine wpList_append_own_at w hgd s x t ho base e i z size bytes ht hi hz hsize hby hzs hsz v n xs hs hown ⟨g, 0, none⟩ m cap ys (by rw [hx, h2]) hsrc.1 (by rw [h2] at hsrc; exact hsrc.cells rfl) h1 h63 hbytes hbase ?_
    intro v' w' ha hb _ hc
    obtain ⟨o', c', rfl⟩ := owns_form2 ha
    refine h o' c' w' ha hb fun g' hg => ?_
    rcases hc with hc | hc
    · rw [hg] at hc; exact .inl hc.symm
    · rw [hg] at hc; injection hc with hc; exact .inr hc
end
/-! ### Trees side by side -/
def TC (R : Nat → Prop) (w : World) (l : List Tr) (es : List Value) : Prop :=
  es.length = l.length * 3 ∧ ∀ i (hi : i < l.length), ∃ k n o m c, es[i * 3]? = some (.int .i64 k) ∧ es[i * 3 + 1]? = some (.int .i64 n) ∧ es[i * 3 + 2]? = some (.slice o m c) ∧ OX R w l[i] (.agg #[.int .i64 k, .int .i64 n, .slice o m c])
theorem TC.nil (R : Nat → Prop) (w : World) : TC R w [] [] := ⟨rfl, fun i hi => absurd hi (Nat.not_lt_zero _)⟩
theorem TC.stay {R R' : Nat → Prop} {w w' : World} {l : List Tr} {es : List Value} (h : TC R w l es) (hs : w.heap.size ≤ w'.heap.size) (hk : ∀ g, g < w.heap.size → R g → w'.heap[g]? = w.heap[g]?) (hR : ∀ g, g < w.heap.size → R g → R' g) : TC R' w' l es := ⟨h.1, fun i hi => by
  obtain ⟨k, n, o, m, c, h1, h2, h3, h4⟩ := h.2 i hi
  exact ⟨k, n, o, m, c, h1, h2, h3, h4.stay hs hk hR⟩⟩
theorem TC.mono {R R' : Nat → Prop} {w : World} {l : List Tr} {es : List Value} (h : TC R w l es) (hR : ∀ g, g < w.heap.size → R g → R' g) : TC R' w l es := h.stay (Nat.le_refl _) (fun _ _ _ => rfl) hR
theorem TC.append {R : Nat → Prop} {w : World} {l l' : List Tr} {es es' : List Value} (h : TC R w l es) (h' : TC R w l' es') : TC R w (l ++ l') (es ++ es') := by
  refine ⟨by rw [List.length_append, List.length_append, h.1, h'.1, Nat.add_mul], fun i hi => ?_⟩
  by_cases c : i < l.length
  · obtain ⟨k, n, o, m, cc, h1, h2, h3, h4⟩ := h.2 i c
    have := h.1
    refine ⟨k, n, o, m, cc, ?_, ?_, ?_, by rw [List.getElem_append_left c]; exact h4⟩
    · rw [List.getElem?_append_left (by omega)]; exact h1
    · rw [List.getElem?_append_left (by omega)]; exact h2
    · rw [List.getElem?_append_left (by omega)]; exact h3
  · have hl := h.1
    have hi' : i - l.length < l'.length := by rw [List.length_append] at hi; omega
    obtain ⟨k, n, o, m, cc, h1, h2, h3, h4⟩ := h'.2 (i - l.length) hi'
    refine ⟨k, n, o, m, cc, ?_, ?_, ?_, by rw [List.getElem_append_right (by omega)]; exact h4⟩
    · rw [List.getElem?_append_right (by omega), hl, show i * 3 - l.length * 3 = (i - l.length) * 3 by omega]; exact h1
    · rw [List.getElem?_append_right (by omega), hl, show i * 3 + 1 - l.length * 3 = (i - l.length) * 3 + 1 by omega]; exact h2
    · rw [List.getElem?_append_right (by omega), hl, show i * 3 + 2 - l.length * 3 = (i - l.length) * 3 + 2 by omega]; exact h3
theorem TC.one {R : Nat → Prop} {w : World} {T : Tr} {k n : Int} {o : Option Addr} {m c : Nat} (h : OX R w T (.agg #[.int .i64 k, .int .i64 n, .slice o m c])) : TC R w [T] [.int .i64 k, .int .i64 n, .slice o m c] := by
  refine ⟨rfl, fun i hi => ?_⟩
  obtain rfl : i = 0 := by simp at hi; omega
  exact ⟨k, n, o, m, c, rfl, rfl, rfl, h⟩
/-- The leaves of a length. -/
theorem TC.heads (R : Nat → Prop) (w : World) (a : Int) (h0 : -9223372036854775808 ≤ a) (h1 : a ≤ 9223372036854775807) : ∀ ks : List Int, TC R w (ks.map fun k => leaf k a) (headCells a ks)
  | [] => TC.nil _ _
  | k :: ks => by
    have e : headCells a (k :: ks) = [.int .i64 k, .int .i64 a, .slice none 0 0] ++ headCells a ks := by simp [headCells]
    rw [List.map_cons, e]
    exact (TC.one (leaf_ox R w k a h0 h1)).append (TC.heads R w a h0 h1 ks)
theorem headCells_one (a : Int) (ks : List Int) : ∀ u ∈ headCells a ks, u.oneCell' = true := by
  intro u hu
  unfold headCells at hu
  obtain ⟨k, _, hu⟩ := List.mem_flatMap.1 hu
  simp at hu
  rcases hu with rfl | rfl | rfl <;> rfl
theorem TC.one' {R : Nat → Prop} {w : World} {l : List Tr} {es : List Value} (h : TC R w l es) : ∀ u ∈ es, u.oneCell' = true := by
  intro u hu
  obtain ⟨j, hj, rfl⟩ := List.getElem_of_mem hu
  have hl := h.1
  obtain ⟨k, n, o, m, c, h1, h2, h3, _⟩ := h.2 (j / 3) (by omega)
  have e := Nat.div_add_mod j 3
  have hm := Nat.mod_lt j (show 0 < 3 by decide)
  rw [List.getElem?_eq_some_iff] at h1 h2 h3
  obtain ⟨_, h1⟩ := h1
  obtain ⟨_, h2⟩ := h2
  obtain ⟨_, h3⟩ := h3
  obtain e0 | e0 | e0 : j = j / 3 * 3 ∨ j = j / 3 * 3 + 1 ∨ j = j / 3 * 3 + 2 := by omega
  · have : es[j] = es[j / 3 * 3] := by congr 1
    rw [this, h1]; rfl
  · have : es[j] = es[j / 3 * 3 + 1] := by congr 1
    rw [this, h2]; rfl
  · have : es[j] = es[j / 3 * 3 + 2] := by congr 1
    rw [this, h3]; rfl
/-- A row of orders that a call owns; R: where it and its trees may lie. -/
def OW (base : Nat) (R : Nat → Prop) (w : World) (v : Value) (l : List Tr) : Prop :=
  ∃ es, w.ownsRow base 28 3 v l.length es ∧ (∀ g, v.ownBlock = some g → R g) ∧ TC (fun g => R g ∧ v.ownBlock ≠ some g) w l es
/-- A list of orders that is handed back. -/
def OL (R : Nat → Prop) (w : World) (v : Value) (l : List Tr) : Prop :=
  ∃ o c, v = .slice o l.length c ∧ (0 < l.length → ∃ g, o = some ⟨g, 0, none⟩ ∧ (g < w.heap.size ∧ R g) ∧ ∀ i (hi : i < l.length), ∃ k n oo m cc, w.cell? ⟨g, i * 3, none⟩ = some (.int .i64 k) ∧ w.cell? ⟨g, i * 3 + 1, none⟩ = some (.int .i64 n) ∧ w.cell? ⟨g, i * 3 + 2, none⟩ = some (.slice oo m cc) ∧ OX R w l[i] (.agg #[.int .i64 k, .int .i64 n, .slice oo m cc]))
theorem OW.nil (base : Nat) (R : Nat → Prop) (w : World) : OW base R w (.slice none 0 0) [] := ⟨[], World.ownsRow_nil _ _ _ _, (fun g hg => by cases hg), TC.nil _ _⟩
theorem OW.form {base : Nat} {R : Nat → Prop} {w : World} {v : Value} {l : List Tr} (h : OW base R w v l) : ∃ o c, v = .slice o l.length c := by
  obtain ⟨es, h1, _⟩ := h
  exact owns_form2 h1
theorem OW.kx {base : Nat} {Q S S' : Nat → Prop} {w w' : World} {v : Value} {l : List Tr} (h : OW base (fun g => Q g ∧ ¬ S g) w v l) (k : KX S w S' w') : OW base (fun g => Q g ∧ ¬ S' g) w' v l := by
  obtain ⟨es, h1, h2, h3⟩ := h
  have hlt : ∀ g, v.ownBlock = some g → g < w.heap.size := fun g hg => (h1.lt g hg).2
  exact ⟨es, owns_block h1 fun g hg => k.block g (hlt g hg) (h2 g hg).2, fun g hg => ⟨(h2 g hg).1, k.outS (hlt g hg) (h2 g hg).2⟩,
    h3.stay k.size (fun g hg hq => k.block g hg hq.1.2) (fun g hg hq => ⟨⟨hq.1.1, k.outS hg hq.1.2⟩, hq.2⟩)⟩
theorem OW.kp {base : Nat} {R : Nat → Prop} {w w' : World} {v : Value} {l : List Tr} (h : OW base R w v l) (k : Kp w w') : OW base R w' v l := by
  obtain ⟨es, h1, h2, h3⟩ := h
  exact ⟨es, k.owns h1, h2, h3.stay k.size (fun g hg _ => k.block g hg) (fun _ _ h => h)⟩
/-- Behind an append. -/
theorem OW.pushed {base : Nat} {R : Nat → Prop} {w w1 w2 : World} {v : Value} {l l' : List Tr} {es es' : List Value} {o' : Option Addr} {c' : Nat} (h : w.ownsRow base 28 3 v l.length es)
    (hR : ∀ g, v.ownBlock = some g → R g) (ht : TC (fun g => R g ∧ v.ownBlock ≠ some g) w1 l es) (ht' : TC (fun g => R g ∧ v.ownBlock ≠ some g) w1 l' es') (hw : w.heap.size ≤ w1.heap.size)
    (hown : w2.ownsRow base 28 3 (.slice o' (l.length + l'.length) c') (l.length + l'.length) (es ++ es')) (hg : w1.grownBy w2 v.ownBlock) (hat : ∀ g, (Value.slice o' (l.length + l'.length) c').ownBlock = some g → v.ownBlock = some g ∨ g = w1.heap.size)
    (hRn : ∀ g, w.heap.size ≤ g → R g) : OW base R w2 (.slice o' (l.length + l'.length) c') (l ++ l') := by
  have e : (l ++ l').length = l.length + l'.length := List.length_append
  refine ⟨es ++ es', by rw [e]; exact hown, fun g hg => ?_, (ht.append ht').stay hg.size (fun g hlt hq => hg.block g hlt (Ne.symm hq.2)) fun g hlt hq => ⟨hq.1, fun h => ?_⟩⟩
  · rcases hat g hg with h | h
    · exact hR g h
    · exact hRn g (by omega)
  · rcases hat g h with h | h
    · exact hq.2 h
    · omega
/-- The first t of them, handed back. -/
theorem OW.hand {base : Nat} {R : Nat → Prop} {w : World} {o : Option Addr} {n c : Nat} {l : List Tr} (h : OW base R w (.slice o n c) l) (t c2 : Nat) (ht : t ≤ l.length) : OL R w (.slice o t c2) (l.take t) := by
  obtain ⟨es, h1, h2, h3⟩ := h
  have el : (l.take t).length = t := by rw [List.length_take, Nat.min_eq_left ht]
  refine ⟨o, c2, by rw [el], fun hpos => ?_⟩
  obtain ⟨g, cap, e, hb, hlt⟩ := h1.form (by omega)
  cases e
  have hg := h2 g rfl
  refine ⟨g, rfl, ⟨hlt, hg⟩, fun i hi => ?_⟩
  have hil : i < l.length := by omega
  obtain ⟨k, n, oo, m, cc, q1, q2, q3, q4⟩ := h3.2 i hil
  have hc := h3.1
  exact ⟨k, n, oo, m, cc, (h1.cellAt _ (by omega)).trans q1, (h1.cellAt _ (by omega)).trans q2, (h1.cellAt _ (by omega)).trans q3, by rw [List.getElem_take]; exact q4.mono fun g _ hq => hq.1⟩
theorem OL.kx {Q S S' : Nat → Prop} {w w' : World} {v : Value} {l : List Tr} (h : OL (fun g => Q g ∧ ¬ S g) w v l) (k : KX S w S' w') : OL (fun g => Q g ∧ ¬ S' g) w' v l := by
  obtain ⟨o, c, e, h⟩ := h
  refine ⟨o, c, e, fun hpos => ?_⟩
  obtain ⟨g, e2, hg, hc⟩ := h hpos
  refine ⟨g, e2, ⟨Nat.lt_of_lt_of_le hg.1 k.size, hg.2.1, k.outS hg.1 hg.2.2⟩, fun i hi => ?_⟩
  obtain ⟨k', n, oo, m, cc, q1, q2, q3, q4⟩ := hc i hi
  exact ⟨k', n, oo, m, cc, k.later q1 hg.2.2, k.later q2 hg.2.2, k.later q3 hg.2.2, q4.kx k⟩
theorem OL.kp {R : Nat → Prop} {w w' : World} {v : Value} {l : List Tr} (h : OL R w v l) (k : Kp w w') : OL R w' v l := by
  obtain ⟨o, c, e, h⟩ := h
  refine ⟨o, c, e, fun hpos => ?_⟩
  obtain ⟨g, e2, hg, hc⟩ := h hpos
  refine ⟨g, e2, ⟨Nat.lt_of_lt_of_le hg.1 k.size, hg.2⟩, fun i hi => ?_⟩
  obtain ⟨k', n, oo, m, cc, q1, q2, q3, q4⟩ := hc i hi
  exact ⟨k', n, oo, m, cc, k.later q1, k.later q2, k.later q3, q4.stay k.size (fun g hg _ => k.block g hg) (fun _ _ h => h)⟩
theorem OL.mono {R R' : Nat → Prop} {w : World} {v : Value} {l : List Tr} (h : OL R w v l) (hR : ∀ g, R g → R' g) : OL R' w v l := by
  obtain ⟨o, c, e, h⟩ := h
  refine ⟨o, c, e, fun hpos => ?_⟩
  obtain ⟨g, e2, hg, hc⟩ := h hpos
  refine ⟨g, e2, ⟨hg.1, hR g hg.2⟩, fun i hi => ?_⟩
  obtain ⟨k', n, oo, m, cc, q1, q2, q3, q4⟩ := hc i hi
  exact ⟨k', n, oo, m, cc, q1, q2, q3, q4.mono fun g _ hq => hR g hq⟩
end Go.Proofs.YtgjlldapnodfbaaDoor
