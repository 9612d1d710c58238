/-
  The walk of BitsLists.
-/
import Derived.Test.YtabnahkheemnmaaDoorBList
namespace Go.Proofs.YtabnahkheemnmaaDoor
open Go Go.RowKit Go.Fl

/-- The values are f's. -/
def Pf (f : Nat → Nat) (xs : List Value) (n : Nat) : Prop := ∀ j, j < n → ∃ c, xs[j]? = some (.float .f64 c) ∧ cn c = f j
theorem Pf.put {f : Nat → Nat} {xs : List Value} {n k c : Nat} (h : Pf f xs n) (hk : k < xs.length) (hc : cn c = f k) : Pf f (xs.set k (.float .f64 c)) n := by
  intro j hj
  by_cases e : j = k
  · subst e; exact ⟨c, by simp [hk], hc⟩
  · obtain ⟨c', h1, h2⟩ := h j hj
    exact ⟨c', by rw [List.getElem?_set_ne (by omega)]; exact h1, h2⟩
theorem Pf.fls (bs : Nat → Int) (n : Nat) : Pf (fun j => cn (bs j).toNat) (fls bs n) n := fun j hj => ⟨_, fls_get bs n j hj, rfl⟩
theorem Lf.own {w : World} {base g n c : Nat} {xs : List Value} {f : Nat → Nat} (h : w.ownsRow base 24 1 (.slice (some ⟨g, 0, none⟩) n c) n xs) (hp : Pf f xs n) : Lf w (some ⟨g, 0, none⟩) n f := fun _ =>
  ⟨g, 0, rfl, fun j hj => by
    obtain ⟨c', h1, h2⟩ := hp j hj
    refine ⟨c', ?_, h2⟩
    have := h.cellAt j (by have := h.1; omega)
    rw [Nat.zero_add, this, h1]⟩
theorem fcap {w : World} {base : Nat} {e : TypeId} {g n cap : Nat} {xs : List Value} (h : w.ownsRow base e 1 (.slice (some ⟨g, 0, none⟩) n cap) n xs) : n ≤ cap ∧ cap ≤ maxLen := by
  rcases h.2 with ⟨h2, _⟩ | ⟨_, _, _, h2, _, _, h3, h4, _⟩
  · cases h2
  · cases h2; exact ⟨h3, h4⟩
theorem NumS.kp {k : IntKind} {w w' : World} {o : Option Addr} {n : Nat} {bs : Nat → Int} (h : NumS k w o n bs) (kk : Kp w w') : NumS k w' o n bs := fun hn => by
  obtain ⟨g, off, h1, h2, h3⟩ := h hn; exact ⟨g, off, h1, Nat.lt_of_lt_of_le h2 kk.size, fun j hj => kk.later (h3 j hj)⟩
theorem bSL_any (oa ob : Option Addr) (n m ca cb : Nat) (f g : Nat → Nat) (t : Bool) (w : World) (hn : n ≤ 17592186044416) (ha : Lf w oa n f) (hb : Lf w ob m g) (ht : t = true ↔ n = m ∧ ∀ j, j < n → f j = g j) :
    Calls Tryd.prog 31 #[.slice oa n ca, .slice ob m cb] w fun e w' => e = .returned (.bool t) ∧ Kp w w' := by
  by_cases h : n = m
  · subst h; exact bSameList_any oa ob n ca cb f g t w hn ha hb (by rw [ht]; simp)
  · obtain rfl : t = false := by cases t with | false => rfl | true => exact absurd (ht.1 rfl).1 h
    exact bSameList_len oa ob n m ca cb w h
theorem rSL_any (oa ob : Option Addr) (n m ca cb : Nat) (f g : Nat → Nat) (t : Bool) (w : World) (hn : n ≤ 17592186044416) (ha : Lf w oa n f) (hb : Lf w ob m g) (ht : t = true ↔ n = m ∧ ∀ j, j < n → f j = g j) :
    Calls Tryd.prog 32 #[.slice oa n ca, .slice ob m cb] w fun e w' => e = .returned (.bool t) ∧ Kp w w' := by
  by_cases h : n = m
  · subst h; exact rSameList_any oa ob n ca cb f g t w hn ha hb (by rw [ht]; simp)
  · obtain rfl : t = false := by cases t with | false => rfl | true => exact absurd (ht.1 rfl).1 h
    exact rSameList_len oa ob n m ca cb w h
theorem bSL_yes (oa ob : Option Addr) (n ca cb : Nat) (f : Nat → Nat) (w : World) (hn : n ≤ 17592186044416) (ha : Lf w oa n f) (hb : Lf w ob n f) :
    Calls Tryd.prog 31 #[.slice oa n ca, .slice ob n cb] w fun e w' => e = .returned (.bool true) ∧ Kp w w' :=
  bSL_any oa ob n n ca cb f f true w hn ha hb (by simp)
theorem bSL_nil (oa ob : Option Addr) (w : World) :
    Calls Tryd.prog 31 #[.slice oa 0 0, .slice ob 0 0] w fun e w' => e = .returned (.bool true) ∧ Kp w w' :=
  bSL_any oa ob 0 0 0 0 (fun _ => 0) (fun _ => 0) true w (by decide) (fun h => absurd h (by decide)) (fun h => absurd h (by decide)) (by simp)
theorem bnan_word : cn 18442240474082181121 = NAN := by decide +kernel
set_option maxRecDepth 100000 in
set_option maxHeartbeats 2000000 in
theorem walk_BitsLists (w : World) (o : Option Addr) (n c : Nat) (bs : Nat → Int) (hb : NumS .u64 w o n bs) (_ : ∀ j, j < n → (Lit.int .u64 (bs j)).wf = true) (hz : n * 8 ≤ 140737488351232)
    (o1 : Option Addr) (m c1 : Nat) (ds : Nat → Int) (hd : NumS .u64 w o1 m ds) (hwd : ∀ j, j < m → (Lit.int .u64 (ds j)).wf = true) (hz1 : m * 8 ≤ 140737488351232) :
    Calls Tryd.prog 8 #[.slice o n c, .slice o1 m c1] w fun e w' => e = .returned (.bool true) ∧ Kp w w' := by
  have hn : n ≤ 17592186044416 := by omega
  have hm : m ≤ 17592186044416 := by omega
  clear hz hz1
  have FA : Hid (∀ w', Kp w w' → Calls Tryd.prog 30 #[.slice o n c] w' fun e w'' => ∃ g c, e = .returned (.slice (some ⟨g, 0, none⟩) n c) ∧ w''.ownsRow w'.heap.size 24 1 (.slice (some ⟨g, 0, none⟩) n c) n (fls bs n) ∧ Kp w' w'') := Lib.hid fun w' hk => floats_any o n c bs w' hn (hb.kp hk)
  have FB : Hid (∀ w', Kp w w' → Calls Tryd.prog 30 #[.slice o1 m c1] w' fun e w'' => ∃ g c, e = .returned (.slice (some ⟨g, 0, none⟩) m c) ∧ w''.ownsRow w'.heap.size 24 1 (.slice (some ⟨g, 0, none⟩) m c) m (fls ds m) ∧ Kp w' w'') := Lib.hid fun w' hk => floats_any o1 m c1 ds w' hm (hd.kp hk)
  have HD := Lib.hid hd
  have HW := Lib.hid hwd
  clear hb hd hwd
  go_enter Tryd.func8, Tryd.ntmps8
  go_wp2_with (first
    | (go_at_call 10; (with_reducible refine (blives_any _).mono ?_); rintro e w0 ⟨rfl, hk0⟩; have HS0 := Lib.hid hk0.size)
    | (go_at_call 30; (with_reducible refine (FA.out _ hk0).mono ?_); rintro e w1 ⟨gx, cx, rfl, hox, hk1⟩; have hk01 := hk0.trans hk1; clear hk0)
    | (go_at_call 30; (with_reducible refine (FB.out _ hk01).mono ?_); rintro e w2 ⟨gy, cy, rfl, hoy, hk2⟩; have hk02 := hk01.trans hk2; clear hk01))
  obtain ⟨t, ht⟩ : ∃ t : Bool, t = true ↔ n = m ∧ ∀ j, j < n → cn (bs j).toNat = cn (ds j).toNat := ⟨decide (n = m ∧ ∀ j, j < n → cn (bs j).toNat = cn (ds j).toNat), by simp⟩
  have hlx := Lf.own hox (Pf.fls bs n)
  have hly := Lf.own hoy (Pf.fls ds m)
  have hlx2 := hlx.kp hk2
  have C1 : Hid (Calls Tryd.prog 31 #[.slice (some ⟨gx, 0, none⟩) n cx, .slice (some ⟨gy, 0, none⟩) m cy] w2 fun e w' => e = .returned (.bool t) ∧ Kp w2 w') := Lib.hid (bSL_any _ _ n m cx cy _ _ t w2 hn hlx2 hly ht)
  have C2 : Hid (∀ w', Kp w2 w' → Calls Tryd.prog 32 #[.slice (some ⟨gx, 0, none⟩) n cx, .slice (some ⟨gy, 0, none⟩) m cy] w' fun e w'' => e = .returned (.bool t) ∧ Kp w' w'') := Lib.hid fun w' hk => rSL_any _ _ n m cx cy _ _ t w' hn (hlx2.kp hk) (hly.kp hk) ht
  have LX := Lib.hid hlx2
  have OX := Lib.hid (hk2.owns hox)
  have OY := Lib.hid hoy
  have HG : Hid (w0.heap.size ≤ gx ∧ gx < w1.heap.size ∧ w1.heap.size ≤ gy ∧ gy < w2.heap.size) := Lib.hid ⟨(hox.lt gx rfl).1, (hox.lt gx rfl).2, (hoy.lt gy rfl).1, (hoy.lt gy rfl).2⟩
  have et : (t == t) = true := by simp
  clear hlx hly hlx2 ht hox hoy hk1 hk2
  go_wp2_with (first
    | (go_at_call 31; (with_reducible refine (C1.out).mono ?_); rintro e w3 ⟨rfl, hk3⟩)
    | (go_at_call 32; (with_reducible refine (C2.out _ hk3).mono ?_); rintro e w4 ⟨rfl, hkx⟩; have hk4 := hk3.trans hkx; clear hk3 hkx)
    | (go_at_call 30; (with_reducible refine (FA.out _ (hk02.trans hk4)).mono ?_); rintro e w5 ⟨gz, cz, rfl, hoz, hkx⟩; have hk5 := hk4.trans hkx; have hlz := Lf.own hoz (Pf.fls bs n); clear hk4 hkx hoz)
    | (go_at_call 31; (with_reducible refine (bSL_yes _ _ n cx cz _ _ hn (LX.out.kp hk5) hlz).mono ?_); rintro e w6 ⟨rfl, hkx⟩; have hk6 := hk5.trans hkx; clear hk5 hkx hlz)
    | (go_at_call 31; (with_reducible refine (bSL_nil _ _ _).mono ?_); rintro e w7 ⟨rfl, hkx⟩; have hk7 := (hk6.alloc _).trans hkx; clear hk6 hkx))
  have hox := hk7.owns OX.out
  have hoy := hk7.owns OY.out
  have hk := hk02.trans hk7
  have hpx := Pf.fls bs n
  clear hk7 LX OX OY C1 C2 FB et
  go_loopw [8, 9, 36] (fun _ _ i wr => ∃ (k : Nat) (xs : List Value), k ≤ n ∧ i = .int .i64 k ∧ wr.ownsRow w0.heap.size 24 1 (.slice (some ⟨gx, 0, none⟩) n cx) n xs ∧ Pf (fun j => cn (bs j).toNat) xs n ∧ wr.ownsRow w1.heap.size 24 1 (.slice (some ⟨gy, 0, none⟩) m cy) m (fls ds m) ∧ Kp w wr) (fun _ _ i _ => n - (intOf i).toNat)
  case atStart => exact ⟨0, _, by omega, rfl, hox, hpx, hoy, hk⟩
  case round =>
    clear hox hpx hoy hk
    obtain ⟨k, xs, hk, rfl, hox, hpx, hoy, hkr⟩ := hrel
    by_cases hlt : k < n
    · obtain ⟨c', hc1, hc2⟩ := hpx k hlt
      have hlen := hox.1
      have q1 := hox.cellAt k (by omega)
      rw [hc1] at q1
      have hst := hox.stored k (.float .f64 18442240474082181121)
      have hfr := hox.frozenAt k
      have hoy2 := World.ownsRow.kept hoy hst.2 (.inr (by have := HG.out; simp [Value.ownBlock]; omega))
      have hk2 := hkr.setCell (p := ⟨gx, k, none⟩) (show w.heap.size ≤ gx from Nat.le_trans HS0.out HG.out.1) (.float .f64 18442240474082181121)
      have HST := Lib.hid (And.intro hst.1 (And.intro hoy2 hk2))
      clear hst hoy2 hk2
      cases hnn : isN c' with
      | true =>
        have hp2 := Lib.hid (hpx.put (k := k) (c := 18442240474082181121) (by omega) (bnan_word.trans ((cn_of c' hnn).symm.trans hc2)))
        have nf := nself_no hnn
        clear hnn hc1 hc2
        go_wp2_with (go_at_call 11; (with_reducible refine (bof_int _ _).mono ?_); rintro e w1 ⟨rfl, rfl⟩)
        go_roundw
        case rel => exact ⟨k + 1, _, by omega, by go_num, HST.out.1, hp2.out, HST.out.2.1, HST.out.2.2⟩
        case measure => simp [intOf]; omega
      | false =>
        have nf := nself_yes hnn
        clear hnn hc1 hc2 HST
        go_wp2_with fail
        go_roundw
        case rel => exact ⟨k + 1, _, by omega, by go_num, hox, hpx, hoy, hkr⟩
        case measure => simp [intOf]; omega
    · obtain rfl : n = k := by omega
      have LX := Lib.hid (Lf.own hox hpx)
      have OY := Lib.hid hoy
      have hcap := fcap hox
      clear hox hpx hoy
      go_wp2_with (first
        | (go_at_call 30; (with_reducible refine (FA.out _ hkr).mono ?_); rintro e w8 ⟨gz, cz, rfl, hoz, hk8⟩; have hlz := Lf.own hoz (Pf.fls bs n); clear hoz)
        | (go_at_call 31; (with_reducible refine (bSL_yes _ _ n cx cz _ _ hn (LX.out.kp hk8) hlz).mono ?_); rintro e w9 ⟨rfl, hkx⟩; have hk9 := hk8.trans hkx; clear hk8 hkx hlz LX)
        | (go_at_call 31; (with_reducible refine (bSameList_len _ _ _ _ _ _ _ (by omega)).mono ?_); rintro e wa ⟨rfl, hkx⟩; have hka := hk9.trans hkx; clear hk9 hkx; have hk9 := hka; clear hka))
      all_goals
        have hoy := hk9.owns OY.out
        have hkz := hkr.trans hk9
        clear hk9 OY hkr FA hcap HG HS0
        go_loopw [7, 10, 79] (fun b _ i wr => ∃ k : Nat, k ≤ m ∧ b = .bool true ∧ i = .int .i64 k ∧ wr.ownsRow w1.heap.size 24 1 (.slice (some ⟨gy, 0, none⟩) m cy) m (fls ds m) ∧ Kp w wr) (fun _ _ i _ => m - (intOf i).toNat)
        case atStart => exact ⟨0, by omega, rfl, rfl, hoy, hkz⟩
        case round =>
          clear hoy hkz
          obtain ⟨k, hk, rfl, rfl, hoy, hkr⟩ := hrel
          by_cases hlt : k < m
          · obtain ⟨gd, off, rfl, hgd, hcd⟩ := HD.out (by omega)
            have q1 := hoy.cellAt k (by omega)
            rw [fls_get ds m k hlt] at q1
            have q2 := hkr.later (hcd k hlt)
            obtain ⟨B, hB⟩ : ∃ B : Nat, ds k = (B : Int) := ⟨(ds k).toNat, by have := wf_u64 (HW.out k hlt); obtain ⟨A, h1, h2⟩ := this; omega⟩
            rw [hB] at q1 q2
            clear hcd hB
            go_wp2_with fail
            go_quiet ((go_at_call 11; exact Calls.quiet_of_same ((bof_int _ _).mono fun e w' ⟨he, hw⟩ => ⟨he, hw.symm⟩)))
            go_wp2_with fail
            go_roundw
            case rel => exact ⟨k + 1, by omega, by first | rfl | simp, by go_num, hoy, hkr.drewN nq⟩
            case measure => simp [intOf]; omega
          · obtain rfl : k = m := by omega
            go_wp2_with fail
            go_ret
            exact ⟨rfl, hkr⟩
end Go.Proofs.YtabnahkheemnmaaDoor
