/-
  The walk of ChirpZoomed.
-/
import Derived.Test.YtnkcjbabfckdgaaDoorCZooms
import Derived.Laws.AppendOwnNone
namespace Go.Proofs.YtnkcjbabfckdgaaDoor
open Go Go.RowKit Go.Fl Go.Roots

theorem Has.congr {w : World} {g n : Nat} {f f' : Nat → Nat × Nat} (h : Has w g n f) (e : ∀ j, j < n → f j = f' j) : Has w g n f' := fun j hj => by rw [← e j hj]; exact h j hj
/-- append of a list of the call's own, nil or not. -/
theorem wpList_append_src {P : Program} {w : World} {ops : Array Oper} {rest : List Oper} {o : Oper} {a : Act} {Q : Exit → Act → World → Prop} (hgd : o.guard = none) (s x : Operand) (t : TypeId)
    (ho : o.op = .call { callee := .builtin .append, args := #[s, x], argTypes := #[t, t] })
    (base : Nat) (e : TypeId) (i : TypeInfo) (z : Value) (size bytes : Nat) (ht : P.underlying t = some (.slice e)) (hi : P.info? e = some i) (hz : i.zero = some z)
    (hsize : i.size = size) (hby : i.bytes = bytes) (hzs : z.cells.size = size) (hsz : 0 < size)
    (v : Value) (n : Nat) (xs : List Value) (hs : a.eval s = v) (hown : w.ownsRow base e size v n xs)
    (base2 : Nat) (u : Value) (m : Nat) (ys : List Value) (hx : a.eval x = u) (hsrc : w.ownsRow base2 e size u m ys) (h1 : ∀ u ∈ ys, u.oneCell' = true)
    (h63 : n + m ≤ maxLen) (hbytes : (n + m) * bytes ≤ 140737488355328) (hbase : base ≤ w.heap.size)
    (h : ∀ v' w', w'.ownsRow base e size v' (n + m) (xs ++ ys) → (w' = w ∨ w.grownBy w' v.ownBlock) → wpList P ops Q rest (a.put o.dst v') w') : wpList P ops Q (o :: rest) a w := by
  rcases hsrc.2 with ⟨h2, h3⟩ | ⟨g, cap, cur, h2, _⟩
  · have hy : ys = [] := by have := hsrc.1; rw [h3, Nat.zero_mul] at this; exact List.eq_nil_of_length_eq_zero this
    refine wpList_append_own_none hgd s x t ho base e i size ht hi v n xs hs hown (by rw [hx, h2]) ?_
    refine h v w ?_ (.inl rfl)
    rw [h3, hy, List.append_nil, Nat.add_zero]
    exact hown
  · exact wpList_append_own w hgd s x t ho base e i z size bytes ht hi hz hsize hby hzs hsz v n xs hs hown ⟨g, 0, none⟩ m cap ys (by rw [hx, h2]) hsrc.1 (by rw [h2] at hsrc; exact hsrc.cells rfl) h1 h63 hbytes hbase fun v' w' a b _ => h v' w' a (.inr b)
theorem zoomed_nums (m from' count : Int) : ∃ M C : Nat, ∃ F : Int, (1 ≤ M ∧ M ≤ 4194304 ∧ C < 40 ∧ -1099511627776 < F ∧ F < 1099511627776) ∧ wrap64 (1 + wrap64 ((IntKind.u64.wrap m).tmod 4194304)) = (M : Int) ∧ from'.tmod 1099511627776 = F ∧ wrap64 ((IntKind.u64.wrap count).tmod 40) = (C : Int) := by
  have u1 : ∀ x : Int, 0 ≤ IntKind.u64.wrap x ∧ IntKind.u64.wrap x < 18446744073709551616 := fun x => by unfold IntKind.wrap; simp [IntKind.bits, IntKind.signed]; omega
  obtain ⟨M0, hM⟩ : ∃ N : Nat, IntKind.u64.wrap m % 4194304 = (N : Int) := Int.eq_ofNat_of_zero_le (by have := u1 m; omega)
  obtain ⟨C, hC⟩ : ∃ N : Nat, IntKind.u64.wrap count % 40 = (N : Int) := Int.eq_ofNat_of_zero_le (by have := u1 count; omega)
  have f1 := Int.tmod_lt_of_pos from' (show (0 : Int) < 1099511627776 by omega)
  have f2 := Int.lt_tmod_of_pos from' (show (0 : Int) < 1099511627776 by omega)
  refine ⟨1 + M0, C, _, ⟨by omega, by have := u1 m; omega, by have := u1 count; omega, f2, f1⟩, ?_, rfl, ?_⟩
  · rw [Int.tmod_eq_emod_of_nonneg (u1 m).1, hM, IntWalk.wrap64_in (M0 : Int) (by have := u1 m; omega), IntWalk.wrap64_in _ (by have := u1 m; omega)]; omega
  · rw [Int.tmod_eq_emod_of_nonneg (u1 count).1, hC]; exact IntWalk.wrap64_in _ (by have := u1 count; omega)
theorem cut_num (cut : Int) (C : Nat) (hC : C < 40) : ∃ K : Nat, K ≤ C ∧ wrap64 ((IntKind.u64.wrap cut).tmod ((C : Int) + 1)) = (K : Int) := by
  have u1 : ∀ x : Int, 0 ≤ IntKind.u64.wrap x := fun x => by unfold IntKind.wrap; simp [IntKind.bits, IntKind.signed]; omega
  obtain ⟨K, hK⟩ := Int.eq_ofNat_of_zero_le (Int.emod_nonneg (IntKind.u64.wrap cut) (show (C : Int) + 1 ≠ 0 by omega))
  have := Int.emod_lt_of_pos (IntKind.u64.wrap cut) (show 0 < (C : Int) + 1 by omega)
  exact ⟨K, by omega, by rw [Int.tmod_eq_emod_of_nonneg (u1 cut), hK]; exact IntWalk.wrap64_in _ (by omega)⟩
/-- Two parts of a zoom, joined. -/
theorem PartC.join {f : Nat → Nat × Nat} {n : Nat} {M from' : Int} {K T : Nat} {xh xt : List Value} (hl : xh.length = K) (hh : PartC (zoom f n M from') xh K) (ht : PartC (zoom f n M (from' + K)) xt T) : PartC (zoom f n M from') (xh ++ xt) (K + T) := fun j hj => by
  by_cases c : j < K
  · obtain ⟨a, b, h1, h2⟩ := hh j c
    exact ⟨a, b, by rw [List.getElem?_append_left (by omega)]; exact h1, h2⟩
  · obtain ⟨a, b, h1, h2⟩ := ht (j - K) (by omega)
    rw [zoom_part, show K + (j - K) = j by omega] at h2
    exact ⟨a, b, by rw [List.getElem?_append_right (by omega), hl]; exact h1, h2⟩
set_option maxRecDepth 100000 in
set_option maxHeartbeats 1000000 in
theorem zoomed_none (ob : Option Addr) (nb cb : Nat) (bs : Nat → Int) (m from' count cut : Int) (w : World) (hn : nb ≤ 17592186043904) (hb : Wd w ob nb bs) (h : nb / 2 < 1 ∨ 60 < nb / 2) :
    Calls Tryd.prog 7 #[.slice ob nb cb, .int .i64 m, .int .i64 from', .int .i64 count, .int .i64 cut] w fun e w' => e = .returned (.bool true) ∧ Kp w w' := by
  have HB := Lib.hid hb
  obtain ⟨n, hnn⟩ : ∃ n, nb / 2 = n := ⟨_, rfl⟩
  have HL : Hid (∀ w', Kp w w' → Calls Tryd.prog 23 #[.slice ob nb cb] w' fun e w'' => ∃ g c, e = .returned (.slice (some ⟨g, 0, none⟩) n c) ∧ Kp w' w'') := Lib.hid fun w' hk => by
    refine (listOf_any ob nb cb bs w' (by omega) (HB.out.kp hk)).mono ?_
    rintro e w1 ⟨v, rfl, _, ⟨g, c, rfl⟩, hk1⟩
    exact ⟨g, c, by rw [hnn], hk1⟩
  have key : ((n : Int) == 0) = true ∨ (((n : Int) == 0) = false ∧ decide ((60 : Int) < (n : Int)) = true) := by
    rw [hnn] at h
    by_cases h0 : n = 0
    · left; rw [h0]; rfl
    · right; exact ⟨by rw [beq_eq_false_iff_ne]; omega, by simp; omega⟩
  clear hb hnn h HB
  rcases key with d1 | ⟨d1, d2⟩
  all_goals
    go_enter Tryd.func7, Tryd.ntmps7
    go_wp2_with (first
      | (go_at_call 8; (with_reducible refine (clives_any _).mono ?_); rintro e w0 ⟨rfl, hk0⟩)
      | (go_at_call 23; (with_reducible refine (HL.out _ hk0).mono ?_); rintro e w1 ⟨g, c, rfl, hk1⟩))
    go_ret
    exact ⟨rfl, hk0.trans hk1⟩
set_option maxRecDepth 100000 in
set_option maxHeartbeats 8000000 in
theorem zoomed_ok (ob : Option Addr) (nb cb : Nat) (bs : Nat → Int) (m from' count cut : Int) (w : World) (hn : nb ≤ 17592186043904) (hb : Wd w ob nb bs) (n : Nat) (hnn : nb / 2 = n) (h1 : 1 ≤ n) (h2 : n ≤ 60) :
    Calls Tryd.prog 7 #[.slice ob nb cb, .int .i64 m, .int .i64 from', .int .i64 count, .int .i64 cut] w fun e w' => e = .returned (.bool true) ∧ Kp w w' := by
  obtain ⟨i0, hi, hz0, hz1, hz2⟩ := info_parts info_c
  have HB : Hid (∀ w', Kp w w' → Calls Tryd.prog 23 #[.slice ob nb cb] w' fun e w'' => ∃ g c, e = .returned (.slice (some ⟨g, 0, none⟩) n c) ∧ Has w'' g n (lst bs) ∧ Kp w' w'') := Lib.hid fun w' h => by
    refine (listOf_any ob nb cb bs w' (by omega) (hb.kp h)).mono ?_
    rintro e w1 ⟨v, rfl, ⟨xs, hox, hpx⟩, ⟨g, c, rfl⟩, hk1⟩
    rw [hnn] at hox hpx ⊢
    exact ⟨g, c, rfl, Has.own hox (Nat.le_refl _) hpx, hk1⟩
  have HN := Lib.hid (zoomed_nums m from' count)
  have d1 : ((n : Int) == 0) = false := by rw [beq_eq_false_iff_ne]; omega
  have d2 : decide ((60 : Int) < (n : Int)) = false := by simp; omega
  have HH : Hid (1 ≤ n ∧ n ≤ 60) := Lib.hid ⟨h1, h2⟩
  clear hb hnn
  go_enter Tryd.func7, Tryd.ntmps7
  go_upto_region 11 with (first
    | (go_at_call 8; (with_reducible refine (clives_any _).mono ?_); rintro e w0 ⟨rfl, hk0⟩)
    | (go_at_call 23; (with_reducible refine (HB.out _ hk0).mono ?_); rintro e w1 ⟨g, c, rfl, hgx, hk1⟩; have HG := Lib.hid hgx)
    | (go_at_call 26; (refine (Forward_any _ n _ (lst bs) _ h1 (by omega) HG.out).mono ?_); rintro e w2 ⟨gy, ys, rfl, hoy, hpy, hk2⟩)
    | (go_at_call 24; (refine (CZoom_any _ n _ n 0 n (lst bs) _ h1 (by omega) h1 (by omega) (by rw [Int.le_ediv_iff_mul_le (by omega)]; rw [← Int.natCast_mul]; have := Nat.mul_le_mul h2 h2; omega) (HG.out.kp hk2)).mono ?_); rintro e w3 ⟨v, rfl, hco, hk3⟩; obtain ⟨gz, cz, rfl, hzz⟩ := hco.some h1; have HY : Hid (Rd w3 (some ⟨gy, 0, none⟩) n (fun k => dft (lst bs) n k)) := Lib.hid ((Rd.of_has (Has.own hoy (Nat.le_refl _) hpy)).kp hk3); have HZ : Hid (Rd w3 (some ⟨gz, 0, none⟩) n (fun k => dft (lst bs) n k)) := Lib.hid (Rd.of_has fun j hj => (by obtain ⟨c', s', q1, q2⟩ := hzz j hj; rw [zoom_dft] at q2; exact ⟨c', s', q1, q2⟩)); clear hoy hpy hzz hco)
    | (go_at_call 18; (with_reducible refine (dsameList_yes _ _ n _ _ _ _ (by omega) HY.out HZ.out).mono ?_); rintro e w4 ⟨rfl, hk4⟩))
  have HX := Lib.hid (((HG.out.kp hk2).kp hk3).kp hk4)
  have hk04 := (((hk0.trans hk1).trans hk2).trans hk3).trans hk4
  clear hk0 hk1 hk2 hk3 hk4 hgx HG HY HZ HB
  go_upto_region 14 with fail
  obtain ⟨M, C, F, ⟨hM1, hM2, hC, hF1, hF2⟩, eM, eF, eC⟩ := HN.out
  obtain ⟨K, hKC, eK⟩ := cut_num cut C hC
  rw [eM, eF, eC]
  have HK := Lib.hid eK
  clear HN eM eF eC eK
  go_upto_region 15 with fail
  rw [HK.out]
  clear HK
  obtain ⟨T, hT⟩ : ∃ T : Nat, C - K = T := ⟨_, rfl⟩
  have eT : (C : Int) - (K : Int) = (T : Int) := by omega
  have HZ : Hid (∀ (f' : Int) (k : Nat) w', Kp w4 w' → k ≤ 60 → Calls Tryd.prog 24 #[.slice (some ⟨g, 0, none⟩) n c, .int .i64 M, .int .i64 f', .int .i64 k] w' fun e w'' => ∃ o cp xs, e = .returned (.tuple #[.slice o k cp, .nilIface]) ∧ w''.ownsRow w'.heap.size 23 1 (.slice o k cp) k xs ∧ PartC (zoom (lst bs) n M f') xs k ∧ Kp w' w'') := Lib.hid fun f' k w' hk hk60 => by
    refine (CZoom_any g n c M f' k (lst bs) w' HH.out.1 (by omega) hM1 hM2 (by rw [Int.le_ediv_iff_mul_le (by omega), ← Int.natCast_mul]; have := Nat.mul_le_mul hk60 h2; omega) (HX.out.kp hk)).mono ?_
    rintro e w1 ⟨v, rfl, ⟨xs, ho, hp⟩, hk1⟩
    obtain ⟨o, cp, rfl, _⟩ := CO.rd (w := w1) ⟨xs, ho, hp⟩
    exact ⟨o, cp, xs, rfl, ho, hp, hk1⟩
  go_upto_region 21 with (first
    | (go_at_call 24; (with_reducible refine (HZ.out F C _ (Kp.refl _) (by omega)).mono ?_); rintro e w5 ⟨o1, p1, x1, rfl, ho1, hp1, hk5⟩)
    | (go_at_call 24; (with_reducible refine (HZ.out F K _ hk5 (by omega)).mono ?_); rintro e w6 ⟨o2, p2, x2, rfl, ho2, hp2, hk6⟩; have hk46 := hk5.trans hk6)
    | (go_at_call 24; (with_reducible refine (HZ.out (F + (K : Int)) T _ hk46 (by omega)).mono ?_); rintro e w7 ⟨o3, p3, x3, rfl, ho3, hp3, hk7⟩; have hk47 := hk46.trans hk7)
    | (go_at_call 24; (with_reducible refine (HZ.out (F + 3 * (M : Int)) C _ hk47 (by omega)).mono ?_); rintro e w8 ⟨o4, p4, x4, rfl, ho4, hp4, hk8⟩))
  have ra : Rd w8 o1 C (zoom (lst bs) n M F) := by
    obtain ⟨o, cp, e, hr⟩ := CO.rd (w := w5) ⟨x1, ho1, hp1⟩
    cases e
    exact hr.kp ((hk6.trans hk7).trans hk8)
  have rf : Rd w8 o4 C (zoom (lst bs) n M F) := by
    obtain ⟨o, cp, e, hr⟩ := CO.rd (w := w8) ⟨x4, ho4, hp4⟩
    cases e
    intro h0
    obtain ⟨g', e', hh⟩ := hr h0
    exact ⟨g', e', hh.congr fun j _ => zoom_far _ _ _ _ _⟩
  have hs2 := (hk7.trans hk8).owns ho2
  have hs3 := hk8.owns ho3
  have hk48 := hk47.trans hk8
  have one2 := hp2.one (by have := ho2.1; omega)
  have one3 := hp3.one (by have := ho3.1; omega)
  have hl2 : x2.length = K := by have := ho2.1; omega
  have hJ := PartC.join hl2 hp2 hp3
  have hKT : K + T = C := by omega
  have RR := Lib.hid (And.intro ra rf)
  clear ra rf hk5 hk6 hk46 hk7 hk47 hk8 ho1 hp1 ho2 hp2 ho3 hp3 ho4 hp4
  have hown0 := owns_empty w8
  have hka : Kp w8 (w8.alloc (.cells #[] 23)) := (Kp.refl w8).alloc _
  go_wp2_with (at_builtin; refine wpList_append_src rfl (.tmp 137) (.tmp 138) 38 rfl w8.heap.size 23 i0 (.complex .f64 0 0) 1 16 Tryd.underlying38 hi hz0 hz1 hz2 rfl (by decide) _ _ _ rfl hown0 _ _ K x2 rfl (hka.owns hs2) one2 ?c3 ?c4 ?c5 ?_)
  case c3 => unfold maxLen; omega
  case c4 => omega
  case c5 => first | simp | omega
  intro v1 w9 hown1 hg1
  have hkb : Kp w8 w9 := by
    rcases hg1 with rfl | hg1
    · exact hka
    · exact hka.grown hg1 (fun j hj => (hown0.lt j hj).1)
  (try simp only [Nat.zero_add, List.nil_append] at hown1)
  go_wp2_with (at_builtin; refine wpList_append_src rfl (.tmp 139) (.tmp 140) 38 rfl w8.heap.size 23 i0 (.complex .f64 0 0) 1 16 Tryd.underlying38 hi hz0 hz1 hz2 rfl (by decide) _ _ _ rfl hown1 _ _ T x3 rfl (hkb.owns hs3) one3 ?d3 ?d4 ?d5 ?_)
  case d3 => unfold maxLen; omega
  case d4 => omega
  case d5 => have := hkb.size; omega
  intro v2 w10 hown2 hg2
  have hkc : Kp w8 w10 := by
    rcases hg2 with rfl | hg2
    · exact hkb
    · exact hkb.grown hg2 (fun j hj => (hown1.lt j hj).1)
  rw [hKT] at hJ
  (try rw [hKT] at hown2)
  obtain ⟨o5, p5, rfl, r5⟩ := CO.rd (w := w10) ⟨_, hown2, hJ⟩
  have R5 := Lib.hid r5
  have RA := Lib.hid (And.intro (RR.out.1.kp hkc) (RR.out.2.kp hkc))
  clear hown0 hown1 hown2 hg1 hg2 hs2 hs3 hJ r5 hka hkb RR
  go_wp2_with (first
    | (go_at_call 18; (with_reducible refine (dsameList_yes _ _ C _ _ _ _ (by omega) RA.out.1 R5.out).mono ?_); rintro e w11 ⟨rfl, hk11⟩)
    | (go_at_call 18; (with_reducible refine (dsameList_yes _ _ C _ _ _ _ (by omega) (RA.out.1.kp hk11) (RA.out.2.kp hk11)).mono ?_); rintro e w12 ⟨rfl, hk12⟩))
  go_ret
  exact ⟨rfl, (((hk04.trans hk48).trans hkc).trans hk11).trans hk12⟩
theorem walk_ChirpZoomed (w : World) (o : Option Addr) (n c : Nat) (bs : Nat → Int) (hb : NumS .u64 w o n bs) (_ : ∀ j, j < n → (Lit.int .u64 (bs j)).wf = true) (hz : n * 8 ≤ 140737488351232)
    (m : Int) (_ : (Lit.int .i64 m).wf = true) (from' : Int) (_ : (Lit.int .i64 from').wf = true) (count : Int) (_ : (Lit.int .i64 count).wf = true) (cut : Int) (_ : (Lit.int .i64 cut).wf = true) :
    Calls Tryd.prog 7 #[.slice o n c, .int .i64 m, .int .i64 from', .int .i64 count, .int .i64 cut] w fun e w' => e = .returned (.bool true) ∧ Kp w w' := by
  by_cases h : n / 2 < 1 ∨ 60 < n / 2
  · exact zoomed_none o n c bs m from' count cut w (by omega) hb h
  · exact zoomed_ok o n c bs m from' count cut w (by omega) hb (n / 2) rfl (by omega) (by omega)
end Go.Proofs.YtnkcjbabfckdgaaDoor
