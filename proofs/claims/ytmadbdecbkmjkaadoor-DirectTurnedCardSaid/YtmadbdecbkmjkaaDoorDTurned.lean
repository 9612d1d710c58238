/-
  The walk of DirectTurned.
-/
import Derived.Test.YtmadbdecbkmjkaaDoorDCalmW
import Derived.Test.YtmadbdecbkmjkaaDoorDRoom
import Derived.Test.YtmadbdecbkmjkaaDoorOpen
import Derived.Deep.DeepCutAuto
import Derived.Deep.CutBlock
import Derived.Deep.RegionHeld3
import Derived.Deep.AppendLies
namespace Go.Proofs.YtmadbdecbkmjkaaDoor
open Go Go.RowKit Go.Fl Go.Roots Go.Calm

/-- Two values of different blocks of their own. -/
def Ne (a b : Value) : Prop := ∀ g, a.ownBlock = some g → b.ownBlock ≠ some g
theorem Ne.symm {a b : Value} (h : Ne a b) : Ne b a := fun g h1 h2 => h g h2 h1
/-- Three lists of the call's own. -/
structure L3 (w : World) (base : Nat) (v0 v1 v2 : Value) (n0 n1 n2 : Nat) (f0 f1 f2 : Nat → Nat × Nat) : Prop where
  r0 : CO w base v0 n0 f0
  r1 : CO w base v1 n1 f1
  r2 : CO w base v2 n2 f2
  a : Ne v0 v1
  b : Ne v0 v2
  c : Ne v1 v2
theorem L3.kp {w w' : World} {base : Nat} {v0 v1 v2 : Value} {n0 n1 n2 : Nat} {f0 f1 f2 : Nat → Nat × Nat} (h : L3 w base v0 v1 v2 n0 n1 n2 f0 f1 f2) (k : Kp w w') : L3 w' base v0 v1 v2 n0 n1 n2 f0 f1 f2 :=
  ⟨h.r0.kp k, h.r1.kp k, h.r2.kp k, h.a, h.b, h.c⟩
theorem L3.rot {w : World} {base : Nat} {v0 v1 v2 : Value} {n0 n1 n2 : Nat} {f0 f1 f2 : Nat → Nat × Nat} (h : L3 w base v0 v1 v2 n0 n1 n2 f0 f1 f2) : L3 w base v1 v2 v0 n1 n2 n0 f1 f2 f0 :=
  ⟨h.r1, h.r2, h.r0, h.c, h.a.symm, h.b.symm⟩
theorem CO.kept {w w' : World} {base : Nat} {v u : Value} {n : Nat} {f : Nat → Nat × Nat} (h : CO w base v n f) (hg : w.grownBy w' u.ownBlock) (hne : Ne u v) : CO w' base v n f := by
  obtain ⟨xs, h1, h2⟩ := h
  refine ⟨xs, h1.kept hg ?_, h2⟩
  cases hv : v.ownBlock with
  | none => exact .inl rfl
  | some q => exact .inr (fun e => hne q e.symm hv)
theorem co_lt {w : World} {base : Nat} {v : Value} {n : Nat} {f : Nat → Nat × Nat} (h : CO w base v n f) : ∀ g, v.ownBlock = some g → base ≤ g ∧ g < w.heap.size := by
  obtain ⟨xs, h1, _⟩ := h; exact h1.lt
theorem L3.step {w w' : World} {base : Nat} {v0 v1 v2 : Value} {n0 n1 n2 : Nat} {f0 f1 f2 : Nat → Nat × Nat} (h : L3 w base v0 v1 v2 n0 n1 n2 f0 f1 f2) {xs : List Value} (hx : w.ownsRow base 27 1 v0 n0 xs) (hp : PartC f0 xs n0)
    {g cap H c s : Nat} (ho : w'.ownsRow base 27 1 (.slice (some ⟨g, 0, none⟩) (n0 + 1) cap) (n0 + 1) (xs ++ [.complex .f64 c s])) (hg : w.grownBy w' v0.ownBlock) (hat : v0.ownBlock = some g ∨ g = H) (hH : w.heap.size ≤ H) (hc : cn c = (f0 n0).1) (hs : cn s = (f0 n0).2) :
    L3 w' base (.slice (some ⟨g, 0, none⟩) (n0 + 1) cap) v1 v2 (n0 + 1) n1 n2 f0 f1 f2 := by
  have hne : ∀ v, Ne v0 v → (∀ q, v.ownBlock = some q → q < w.heap.size) → Ne (.slice (some ⟨g, 0, none⟩) (n0 + 1) cap) v := fun v h1 h2 q hq => by
    obtain rfl : g = q := by simpa [Value.ownBlock] using hq
    rcases hat with e | e
    · exact h1 g e
    · intro e2; have := h2 g e2; omega
  exact ⟨⟨_, ho, hp.snoc (by have := hx.1; simpa using this) hc hs⟩, h.r1.kept hg h.a, h.r2.kept hg h.b, hne _ h.a (fun q hq => (co_lt h.r1 q hq).2), hne _ h.b (fun q hq => (co_lt h.r2 q hq).2), h.c⟩
theorem num129 (k : Int) : ∃ q : Nat, q < 129 ∧ (IntKind.u64.wrap k).tmod 129 = (q : Int) := by
  have u1 : ∀ x : Int, 0 ≤ IntKind.u64.wrap x := fun x => by unfold IntKind.wrap; simp [IntKind.bits, IntKind.signed]; omega
  obtain ⟨S, hS⟩ : ∃ S : Nat, IntKind.u64.wrap k % 129 = (S : Int) := Int.eq_ofNat_of_zero_le (by have := u1 k; omega)
  exact ⟨S, by omega, by rw [Int.tmod_eq_emod_of_nonneg (u1 k)]; exact hS⟩
theorem raw_of {u r : Nat} {S : Int} (hF : FV u S) (h : cn r = u) : r = u := by
  by_cases hn : isN r = true
  · have h1 := isN_cn r
    obtain ⟨s, z, e, hz, _⟩ := hF
    have h2 := isN_word s z (by rw [infRung_double]; exact Nat.le_of_lt hz)
    rw [h, e, h2, hn] at h1
    cases h1
  · rw [← h, cn_of_not r (by simpa using hn)]
theorem run_mul_fin {c F : Nat} {T : Int} (h : FV (mul c F) T) (w : World) : (binOp .mul 28 (.float .f64 c) (.float .f64 F)).run Tryd.prog w = .ok (.float .f64 (mul c F)) w := by
  show (Op.floatArith .mul .f64 c F).run _ w = _
  cases hf : floatBits .mul .f64 c F with
  | none =>
    exfalso
    have e : mul c F = NAN := by show (floatBits .mul .f64 c F).getD NAN = NAN; rw [hf]; rfl
    rw [e] at h
    obtain ⟨s, z, e2, hz, _⟩ := h
    have h2 := isN_word s z (by rw [infRung_double]; exact Nat.le_of_lt hz)
    rw [← e2, isN_NAN] at h2
    cases h2
  | some r =>
    have e : mul c F = r := by show (floatBits .mul .f64 c F).getD NAN = r; rw [hf]; rfl
    rw [run_floatArith w hf, e]
theorem lst_bits (bs : Nat → Int) (np j : Nat) (hbw : ∀ j, j < np → 0 ≤ bs j ∧ bs j < 18446744073709551616) (hj : 2 * j + 1 < np) : (lst bs j).1 < 18446744073709551616 ∧ (lst bs j).2 < 18446744073709551616 ∧ cn (lst bs j).1 = (lst bs j).1 ∧ cn (lst bs j).2 = (lst bs j).2 := by
  have key : ∀ x : Int, 0 ≤ x → x < 18446744073709551616 → cn x.toNat < 18446744073709551616 := fun x h1 h2 => by
    by_cases hn : isN x.toNat = true
    · rw [cn_of _ hn]; decide
    · rw [cn_of_not _ (by simpa using hn)]; omega
  obtain ⟨h1, h2⟩ := hbw (2 * j) (by omega)
  obtain ⟨h3, h4⟩ := hbw (2 * j + 1) hj
  exact ⟨key _ h1 h2, key _ h3 h4, cn_cn _, cn_cn _⟩
def fm (f : Nat → Nat × Nat) (j : Nat) : Nat × Nat := (neg (f j).1, neg (f j).2)
def ft (f : Nat → Nat × Nat) (j : Nat) : Nat × Nat := (neg (f j).2, (f j).1)
def fs (f : Nat → Nat × Nat) (F : Nat) (j : Nat) : Nat × Nat := (mul (f j).1 F, mul (f j).2 F)

/-- Element i of the four transforms. -/
theorem turned_law (f : Nat → Nat × Nat) (n i F : Nat) (kk : Int) (hn : n ≤ 1024) (hi : i < n) (hF : F = pw kk) (k1 : -64 ≤ kk) (k2 : kk ≤ 64)
    (hbits : ∀ j, j < n → (f j).1 < 18446744073709551616 ∧ (f j).2 < 18446744073709551616 ∧ cn (f j).1 = (f j).1 ∧ cn (f j).2 = (f j).2) (hsee : ∀ j, j < n → seeC (f j)) (hsum : ∀ j, 1 ≤ j → j < n → sumC f n i j)
    {a1 b1 a2 b2 a3 b3 a4 b4 : Nat} (ha : cn a1 = (dft f n i).1) (hb : cn b1 = (dft f n i).2) (ha2 : cn a2 = (dft (fm f) n i).1) (hb2 : cn b2 = (dft (fm f) n i).2) (ha3 : cn a3 = (dft (ft f) n i).1) (hb3 : cn b3 = (dft (ft f) n i).2) (ha4 : cn a4 = (dft (fs f F) n i).1) (hb4 : cn b4 = (dft (fs f F) n i).2) :
    (ord (cn a2) (neg (cn a1)) == some .eq) = true ∧ (ord (cn b2) (neg (cn b1)) == some .eq) = true ∧ (ord (cn a3) (neg (cn b1)) == some .eq) = true ∧ (ord (cn b3) (cn a1) == some .eq) = true ∧
    ∃ T1 T2, FV (mul a1 F) T1 ∧ FV (mul b1 F) T2 ∧ (ord (cn a4) (cn (mul a1 F)) == some .eq) = true ∧ (ord (cn b4) (cn (mul b1 F)) == some .eq) = true := by
  have st := fun (R : Int → Int → Int → Int → Prop) (q : Nat → Nat × Nat) (hq : ∀ j, j < n → ∀ A B, FV (f j).1 A → FV (f j).2 B → CI A → CI B → ∃ A' B', FV (q j).1 A' ∧ FV (q j).2 B' ∧ R A B A' B') (hR : Mor R) =>
    acc_two hR f q n i hn hi (fun j hj => start_two R (hbits j hj).1 (hbits j hj).2.1 (hbits j hj).2.2.1 (hbits j hj).2.2.2 (hsee j hj) (hq j hj)) hsum (n - 1) (by omega)
  obtain ⟨A, B, A1, B1, x1, x2, x3, x4, ⟨e1, e2⟩, cA, cB⟩ := st _ (fm f) (fun j hj A B h1 h2 _ _ => ⟨-A, -B, h1.neg, h2.neg, rfl, rfl⟩) mor_minus
  obtain ⟨A', B', A2, B2, x1', x2', x5, x6, ⟨e3, e4⟩, _⟩ := st _ (ft f) (fun j hj A B h1 h2 _ _ => ⟨-B, A, h2.neg, h1, rfl, rfl⟩) mor_turn
  obtain ⟨A'', B'', A3, B3, x1'', x2'', x7, x8, ⟨e5, e6⟩, _⟩ := st _ (fs f F) (fun j hj A B h1 h2 c1 c2 => by
    obtain ⟨T1, y1, z1⟩ := scale_FV h1 c1 kk (-kk).toNat kk.toNat (by omega) (by omega) (by omega)
    obtain ⟨T2, y2, z2⟩ := scale_FV h2 c2 kk (-kk).toNat kk.toNat (by omega) (by omega) (by omega)
    exact ⟨T1, T2, by rw [hF]; exact y1, by rw [hF]; exact y2, z1, z2⟩) (mor_scale (-kk).toNat kk.toNat (by omega) (by omega))
  obtain rfl := x1'.uniq x1
  obtain rfl := x2'.uniq x2
  obtain rfl := x1''.uniq x1
  obtain rfl := x2''.uniq x2
  have ra := raw_of x1 ha
  have rb := raw_of x2 hb
  subst e1 e2 e3 e4
  have dd : ∀ g : Nat → Nat × Nat, dft g n i = acc g n i (n - 1) := fun _ => rfl
  rw [ha2, hb2, ha3, hb3, ha4, hb4, ha, hb, ra, rb]
  obtain ⟨T1, y1, z1⟩ := scale_FV x1 cA kk (-kk).toNat kk.toNat (by omega) (by omega) (by omega)
  obtain ⟨T2, y2, z2⟩ := scale_FV x2 cB kk (-kk).toNat kk.toNat (by omega) (by omega) (by omega)
  rw [← hF] at y1 y2
  obtain rfl := scaled_uniq e5 z1
  obtain rfl := scaled_uniq e6 z2
  refine ⟨FV.eq x3 x1.neg, FV.eq x4 x2.neg, FV.eq x5 x2.neg, FV.eq x6 x1, _, _, y1, y2, ?_, ?_⟩
  · rw [y1.cn]; exact FV.eq x7 y1
  · rw [y2.cn]; exact FV.eq x8 y2
set_option maxRecDepth 100000 in
set_option maxHeartbeats 4000000 in
theorem turned_ok (op : Option Addr) (np cp : Nat) (bs : Nat → Int) (k : Int) (w : World) (hnp : np ≤ 17592186044416) (hb : Wd w op np bs) (hbw : ∀ j, j < np → 0 ≤ bs j ∧ bs j < 18446744073709551616) :
    Calls Tryd.prog 7 #[.slice op np cp, .int .i64 k] w fun e w' => e = .returned (.bool true) ∧ Kp w w' := by
  obtain ⟨i0, hi, hz0, hz1, hz2⟩ := info_parts info_c
  have HP := Lib.hid hb
  have HW := Lib.hid hbw
  clear hb hbw
  obtain ⟨q, hq, eq⟩ := num129 k
  have HQ := Lib.hid eq
  clear eq
  obtain ⟨n, hn⟩ : ∃ n, np / 2 = n := ⟨_, rfl⟩
  have HN := Lib.hid hn
  have hlo : Hid (∀ w', Kp w w' → Calls Tryd.prog 12 #[.slice op np cp] w' fun e w'' => ∃ v, e = .returned v ∧ CO w'' w'.heap.size v n (lst bs) ∧ (∃ g c, v = .slice (some ⟨g, 0, none⟩) n c) ∧ Kp w' w'') := Lib.hid fun w' hk => by
    have := listOf_any op np cp bs w' hnp (HP.out.kp hk); rw [hn] at this; exact this
  clear hn
  by_cases hn0 : n = 0
  · subst hn0
    go_enter Tryd.func7, Tryd.ntmps7
    go_wp2_with (first
      | (go_at_call 8; (refine (dlives_any _).mono ?_); rintro e w0 ⟨rfl, hk0⟩)
      | (go_at_call 12; (refine (hlo.out _ hk0).mono ?_); rintro e w1 ⟨_, rfl, hco, ⟨g, c, rfl⟩, hk1⟩))
    go_ret
    exact ⟨rfl, hk0.trans hk1⟩
  by_cases hn60 : 60 < n
  · have d1 : ((n : Int) == 0) = false := by simp; omega
    have d2 : decide (60 < (n : Int)) = true := by simp; omega
    clear hn60 hn0
    go_enter Tryd.func7, Tryd.ntmps7
    go_wp2_with (first
      | (go_at_call 8; (refine (dlives_any _).mono ?_); rintro e w0 ⟨rfl, hk0⟩)
      | (go_at_call 12; (refine (hlo.out _ hk0).mono ?_); rintro e w1 ⟨_, rfl, hco, ⟨g, c, rfl⟩, hk1⟩))
    go_ret
    exact ⟨rfl, hk0.trans hk1⟩
  have d1 : ((n : Int) == 0) = false := by simp; omega
  have d2 : decide (60 < (n : Int)) = false := by simp; omega
  go_enter Tryd.func7, Tryd.ntmps7
  go_upto_region 6 with (first
      | (go_at_call 8; (refine (dlives_any _).mono ?_); rintro e w0 ⟨rfl, hk0⟩)
      | (go_at_call 12; (refine (hlo.out _ hk0).mono ?_); rintro e w1 ⟨_, rfl, hco, ⟨g, cg, rfl⟩, hk1⟩))
  have hgl : g < w1.heap.size := (co_lt hco g rfl).2
  have hH : Hid (Has w1 g n (lst bs)) := by obtain ⟨xs, h1, h2⟩ := hco; exact Lib.hid (Has.own h1 (Nat.le_refl _) h2)
  have hk01 := hk0.trans hk1
  clear hco hk0 hk1 d1 d2
  go_upto_region 7 with (go_at_call 27; (refine (calm_any g n cg (lst bs) _ (by omega) (by omega) hH.out hgl).mono ?_); rintro e w2 ⟨cb, rfl, hcalm, hk2⟩)
  have HC := Lib.hid hcalm
  clear hcalm
  cases cb
  · go_wp2_with fail
    go_ret
    exact ⟨rfl, hk01.trans hk2⟩
  have hk02 := hk01.trans hk2
  have HL : Hid (Has w2 g n (lst bs)) := Lib.hid (hH.out.kp hk2)
  have hgl2 : g < w2.heap.size := Nat.lt_of_lt_of_le hgl hk2.size
  clear hk01 hk2 hH hgl
  go_upto_region 10 with fail
  have eK : wrap64 (wrap64 ((IntKind.u64.wrap k).tmod 129) - 64) = (q : Int) - 64 := by
    have a1 : wrap64 (q : Int) = (q : Int) := by rw [← IntWalk.i64_left]; exact IntWalk.i64_in _ (by omega)
    rw [HQ.out, a1, ← IntWalk.i64_left]; exact IntWalk.i64_in _ (by omega)
  rw [eK]
  clear eK
  generalize wrap64 ((IntKind.u64.wrap k).tmod 129) = z1
  generalize (IntKind.u64.wrap k).tmod 129 = z2
  obtain ⟨kk, hkk⟩ : ∃ kk : Int, (q : Int) - 64 = kk := ⟨_, rfl⟩
  rw [hkk]
  have k1 : -64 ≤ kk := by omega
  have k2 : kk ≤ 64 := by omega
  clear hkk hq HQ
  go_upto_region 11 with (go_at_call 28; (refine (Ldexp_one kk k1 k2 _).mono ?_); rintro e w3 ⟨F, rfl, hF, hk3⟩)
  have hFF := raw_of (pw_FV kk k1 k2) hF
  have HF := Lib.hid (And.intro hFF (And.intro k1 k2))
  have hk03 := hk02.trans hk3
  have HL3 : Hid (Has w3 g n (lst bs)) := Lib.hid (HL.out.kp hk3)
  have hgl3 : g < w3.heap.size := Nat.lt_of_lt_of_le hgl2 hk3.size
  clear hF hFF k1 k2 hk02 hk3 HL hgl2
  go_upto_region 12 with fail
  have hl3 : L3 (((w3.alloc (.cells #[] 27)).alloc (.cells #[] 27)).alloc (.cells #[] 27)) w3.heap.size (.slice (some ⟨w3.heap.size, 0, none⟩) 0 0) (.slice (some ⟨w3.heap.size + 1, 0, none⟩) 0 0) (.slice (some ⟨w3.heap.size + 1 + 1, 0, none⟩) 0 0) 0 0 0 (fm (lst bs)) (ft (lst bs)) (fs (lst bs) F) := by
    have a0 := ((owns_empty w3).alloc (.cells #[] 27)).alloc (.cells #[] 27)
    have a1 := (owns_empty (w3.alloc (.cells #[] 27))).alloc (.cells #[] 27)
    have a2 := owns_empty ((w3.alloc (.cells #[] 27)).alloc (.cells #[] 27))
    simp only [World.size_alloc] at a1 a2
    exact ⟨⟨[], a0, fun j hj => by omega⟩, ⟨[], owns_mono a1 (by omega), fun j hj => by omega⟩, ⟨[], owns_mono a2 (by omega), fun j hj => by omega⟩,
      fun g h1 h2 => by simp [Value.ownBlock] at h1 h2; omega, fun g h1 h2 => by simp [Value.ownBlock] at h1 h2; omega, fun g h1 h2 => by simp [Value.ownBlock] at h1 h2; omega⟩
  have hk4 : Kp w3 (((w3.alloc (.cells #[] 27)).alloc (.cells #[] 27)).alloc (.cells #[] 27)) := (((Kp.refl w3).alloc _).alloc _).alloc _
  generalize ((w3.alloc (.cells #[] 27)).alloc (.cells #[] 27)).alloc (.cells #[] 27) = w4 at *
  obtain ⟨B, hB⟩ : ∃ B, w3.heap.size = B := ⟨_, rfl⟩
  rw [hB] at hl3 ⊢
  go_wp2_with fail
  go_loopw [8, 9, 10, 12, 51] (fun v0 v1 v2 _ i wr => ∃ j : Nat, j ≤ n ∧ i = .int .i64 j ∧ L3 wr B v0 v1 v2 j j j (fm (lst bs)) (ft (lst bs)) (fs (lst bs) F) ∧ Kp w3 wr) (fun _ _ _ _ i _ => n - (intOf i).toNat)
  case atStart => exact ⟨0, by omega, rfl, hl3, hk4⟩
  case round =>
    clear hl3 hk4
    obtain ⟨j, hj, rfl, hL, hkr⟩ := hrel
    by_cases hlt : j < n
    · obtain ⟨c, s, q1, hc, hs⟩ := (HL3.out.kp hkr) j hlt
      have hsee := (HC.out trivial).1 j hlt
      obtain ⟨lb1, lb2, lc1, lc2⟩ := lst_bits bs np j HW.out (by have := HN.out; omega)
      obtain ⟨A, hA, cA⟩ := calm_FV _ lb1 lc1 hsee.1
      obtain ⟨D, hD, cD⟩ := calm_FV _ lb2 lc2 hsee.2
      have rc := raw_of hA hc
      have rs := raw_of hD hs
      obtain ⟨T1, hT1, _⟩ := scale_FV hA cA kk (-kk).toNat kk.toNat (by have := HF.out.2; omega) (by have := HF.out.2; omega) (by omega)
      obtain ⟨T2, hT2, _⟩ := scale_FV hD cD kk (-kk).toNat kk.toNat (by have := HF.out.2; omega) (by have := HF.out.2; omega) (by omega)
      rw [← rc, ← HF.out.1] at hT1
      rw [← rs, ← HF.out.1] at hT2
      have m1 := fun w => run_mul_fin hT1 w
      have m2 := fun w => run_mul_fin hT2 w
      obtain ⟨M1, hM1⟩ : ∃ M1, mul c F = M1 := ⟨_, rfl⟩
      obtain ⟨M2, hM2⟩ : ∃ M2, mul s F = M2 := ⟨_, rfl⟩
      rw [hM1] at m1 hT1
      rw [hM2] at m2 hT2
      have hv : Hid (cn (Op.negFloat .f64 c) = (fm (lst bs) j).1 ∧ cn (Op.negFloat .f64 s) = (fm (lst bs) j).2 ∧ cn (Op.negFloat .f64 s) = (ft (lst bs) j).1 ∧ cn c = (ft (lst bs) j).2 ∧ cn M1 = (fs (lst bs) F j).1 ∧ cn M2 = (fs (lst bs) F j).2) :=
        Lib.hid ⟨by rw [cn_negFloat, hc]; rfl, by rw [cn_negFloat, hs]; rfl, by rw [cn_negFloat, hs]; rfl, hc, by rw [hT1.cn, ← hM1, rc]; rfl, by rw [hT2.cn, ← hM2, rs]; rfl⟩
      clear hsee lb1 lb2 lc1 lc2 hA cA hD cD rc rs hT1 hT2 hM1 hM2 hc hs
      have HB : Hid (j + 1 ≤ 8796093022208 ∧ B ≤ wr.heap.size) := Lib.hid ⟨by omega, by have := hkr.size; omega⟩
      obtain ⟨xs, hown, hp⟩ := id hL.r0
      have HL0 := Lib.hid hL
      clear hL
      go_upto_region 16 with (at_builtin; refine wpList_append_lies _ (by rfl) _ _ 26 (by rfl) B 27 i0 (.complex .f64 0 0) 1 16 Tryd.underlying26 hi hz0 hz1 hz2 rfl (by decide) _ _ xs (by rfl) (hown.alloc _) ⟨wr.heap.size, 0, none⟩ 1 1 [.complex .f64 (Op.negFloat .f64 c) (Op.negFloat .f64 s)] (by rfl) (by rfl) (World.news_of_block (cs := #[.complex .f64 (Op.negFloat .f64 c) (Op.negFloat .f64 s)]) (t := 27) (fr := (0, 0)) (heap_alloc_new wr _)) (by simp [Value.oneCell']) (by decide) (by have := HB.out.1; unfold maxLen; exact Nat.le_trans this (by decide)) (Nat.le_trans (Nat.mul_le_mul_right 16 HB.out.1) (by decide)) (Nat.le_trans HB.out.2 (by simp)) (wr.heap.size + 1) (by simp) ?_; intro gg cap' w5 hown1 hgrow hat hlt')
      have hL1 := ((HL0.out.kp ((Kp.refl wr).alloc (.cells #[.complex .f64 (Op.negFloat .f64 c) (Op.negFloat .f64 s)] 27))).step (hown.alloc _) hp hown1 hgrow hat (by simp) hv.out.1 hv.out.2.1).rot
      have hk5 : Kp w3 w5 := (hkr.alloc _).grown hgrow (fun q hq => by have := (hown.lt q hq).1; omega)
      clear hown hp HL0 hown1 hgrow hat hlt' hkr HB
      have HB : Hid (j + 1 ≤ 8796093022208 ∧ B ≤ w5.heap.size) := Lib.hid ⟨by omega, by have := hk5.size; omega⟩
      obtain ⟨xs, hown, hp⟩ := id hL1.r0
      have HL0 := Lib.hid hL1
      clear hL1
      go_upto_region 17 with (at_builtin; refine wpList_append_lies _ (by rfl) _ _ 26 (by rfl) B 27 i0 (.complex .f64 0 0) 1 16 Tryd.underlying26 hi hz0 hz1 hz2 rfl (by decide) _ _ xs (by rfl) (hown.alloc _) ⟨w5.heap.size, 0, none⟩ 1 1 [.complex .f64 (Op.negFloat .f64 s) c] (by rfl) (by rfl) (World.news_of_block (cs := #[.complex .f64 (Op.negFloat .f64 s) c]) (t := 27) (fr := (0, 0)) (heap_alloc_new w5 _)) (by simp [Value.oneCell']) (by decide) (by have := HB.out.1; unfold maxLen; exact Nat.le_trans this (by decide)) (Nat.le_trans (Nat.mul_le_mul_right 16 HB.out.1) (by decide)) (Nat.le_trans HB.out.2 (by simp)) (w5.heap.size + 1) (by simp) ?_; intro gg2 cap2 w6 hown1 hgrow hat hlt')
      have hL1 := ((HL0.out.kp ((Kp.refl w5).alloc (.cells #[.complex .f64 (Op.negFloat .f64 s) c] 27))).step (hown.alloc _) hp hown1 hgrow hat (by simp) hv.out.2.2.1 hv.out.2.2.2.1).rot
      have hk6 : Kp w3 w6 := (hk5.alloc _).grown hgrow (fun q hq => by have := (hown.lt q hq).1; omega)
      clear hown hp HL0 hown1 hgrow hat hlt' hk5 HB
      have HB : Hid (j + 1 ≤ 8796093022208 ∧ B ≤ w6.heap.size) := Lib.hid ⟨by omega, by have := hk6.size; omega⟩
      obtain ⟨xs, hown, hp⟩ := id hL1.r0
      have HL0 := Lib.hid hL1
      clear hL1
      go_upto_region 18 with (at_builtin; refine wpList_append_lies _ (by rfl) _ _ 26 (by rfl) B 27 i0 (.complex .f64 0 0) 1 16 Tryd.underlying26 hi hz0 hz1 hz2 rfl (by decide) _ _ xs (by rfl) (hown.alloc _) ⟨w6.heap.size, 0, none⟩ 1 1 [.complex .f64 M1 M2] (by rfl) (by rfl) (World.news_of_block (cs := #[.complex .f64 M1 M2]) (t := 27) (fr := (0, 0)) (heap_alloc_new w6 _)) (by simp [Value.oneCell']) (by decide) (by have := HB.out.1; unfold maxLen; exact Nat.le_trans this (by decide)) (Nat.le_trans (Nat.mul_le_mul_right 16 HB.out.1) (by decide)) (Nat.le_trans HB.out.2 (by simp)) (w6.heap.size + 1) (by simp) ?_; intro gg3 cap3 w7 hown1 hgrow hat hlt')
      have hL1 := ((HL0.out.kp ((Kp.refl w6).alloc (.cells #[.complex .f64 M1 M2] 27))).step (hown.alloc _) hp hown1 hgrow hat (by simp) hv.out.2.2.2.2.1 hv.out.2.2.2.2.2).rot
      have hk7 : Kp w3 w7 := (hk6.alloc _).grown hgrow (fun q hq => by have := (hown.lt q hq).1; omega)
      clear hown hp HL0 hown1 hgrow hat hlt' hk6 HB m1 m2 hv
      have HL7 := Lib.hid hL1
      clear hL1
      go_wp2_with fail
      go_roundw
      case rel => exact ⟨j + 1, by omega, by go_num, HL7.out, hk7⟩
      case measure => simp [intOf]; omega
    · obtain rfl : n = j := by omega
      obtain ⟨⟨xs0, o0, p0⟩, ⟨xs1, o1, p1⟩, ⟨xs2, o2, p2⟩, _, _, _⟩ := hL
      obtain ⟨g0, c0, rfl⟩ := owns_form o0 (by omega)
      obtain ⟨g1, c1, rfl⟩ := owns_form o1 (by omega)
      obtain ⟨g2, c2, rfl⟩ := owns_form o2 (by omega)
      have HX : Hid (Has wr g n (lst bs)) := Lib.hid (HL3.out.kp hkr)
      have H0 : Hid (Has wr g0 n (fm (lst bs))) := Lib.hid (Has.own o0 (Nat.le_refl _) p0)
      have H1 : Hid (Has wr g1 n (ft (lst bs))) := Lib.hid (Has.own o1 (Nat.le_refl _) p1)
      have H2 : Hid (Has wr g2 n (fs (lst bs) F)) := Lib.hid (Has.own o2 (Nat.le_refl _) p2)
      have hk0r := hk03.trans hkr
      have hn1 : 1 ≤ n := by omega
      have hn2 : n ≤ 1024 := by omega
      obtain ⟨we, rfl⟩ : ∃ we : World, we = wr := ⟨_, rfl⟩
      clear o0 o1 o2 p0 p1 p2 HL3 hkr hk03 hlt hj
      go_upto_region 20 with (go_at_call 9; (with_reducible refine (Forward_any g n cg (lst bs) _ hn1 hn2 HX.out).mono ?_); rintro e w8 ⟨y0, ys0, rfl, hy0, py0, hk8⟩)
      have Y0 : Hid (Has w8 y0 n (fun j => dft (lst bs) n j)) := Lib.hid (Has.own hy0 (Nat.le_refl _) py0)
      have H0a := Lib.hid (H0.out.kp hk8)
      clear H0 hy0 py0
      go_upto_region 21 with (go_at_call 9; (with_reducible refine (Forward_any g0 n c0 _ _ hn1 hn2 H0a.out).mono ?_); rintro e w9 ⟨y1, ys1, rfl, hy1, py1, hk9⟩)
      have Y1 : Hid (Has w9 y1 n (fun j => dft (fm (lst bs)) n j)) := Lib.hid (Has.own hy1 (Nat.le_refl _) py1)
      have Y0a := Lib.hid (Y0.out.kp hk9)
      have H1a := Lib.hid ((H1.out.kp hk8).kp hk9)
      clear H1 H0a hy1 py1 Y0
      go_upto_region 22 with (go_at_call 9; (with_reducible refine (Forward_any g1 n c1 _ _ hn1 hn2 H1a.out).mono ?_); rintro e w10 ⟨y2, ys2, rfl, hy2, py2, hk10⟩)
      have Y2 : Hid (Has w10 y2 n (fun j => dft (ft (lst bs)) n j)) := Lib.hid (Has.own hy2 (Nat.le_refl _) py2)
      have Y0b := Lib.hid (Y0a.out.kp hk10)
      have Y1b := Lib.hid (Y1.out.kp hk10)
      have H2a := Lib.hid (((H2.out.kp hk8).kp hk9).kp hk10)
      clear H2 H1a hy2 py2 Y0a Y1
      go_upto_region 23 with (go_at_call 9; (with_reducible refine (Forward_any g2 n c2 _ _ hn1 hn2 H2a.out).mono ?_); rintro e w11 ⟨y3, ys3, rfl, hy3, py3, hk11⟩)
      have Y3 : Hid (Has w11 y3 n (fun j => dft (fs (lst bs) F) n j)) := Lib.hid (Has.own hy3 (Nat.le_refl _) py3)
      have Y0c := Lib.hid (Y0b.out.kp hk11)
      have Y1c := Lib.hid (Y1b.out.kp hk11)
      have Y2c := Lib.hid (Y2.out.kp hk11)
      have hk011 := (((hk0r.trans hk8).trans hk9).trans hk10).trans hk11
      clear H2a hy3 py3 Y0b Y1b Y2 hk8 hk9 hk10 hk11 hk0r
      go_wp2_with fail
      go_loopw [21, 22, 151] (fun _ _ b wr => ∃ i : Nat, i ≤ n ∧ b = .int .i64 i ∧ Kp w11 wr) (fun _ _ b _ => n - (intOf b).toNat)
      case atStart => exact ⟨0, by omega, rfl, Kp.refl _⟩
      case round =>
        obtain ⟨i, hi2, rfl, hkr⟩ := hrel
        by_cases hlt : i < n
        · obtain ⟨a1, b1, q0, ha, hb⟩ := (Y0c.out.kp hkr) i hlt
          obtain ⟨a2, b2, q1, ha2, hb2⟩ := (Y1c.out.kp hkr) i hlt
          obtain ⟨a3, b3, q2, ha3, hb3⟩ := (Y2c.out.kp hkr) i hlt
          obtain ⟨a4, b4, q3, ha4, hb4⟩ := (Y3.out.kp hkr) i hlt
          have hall := HC.out trivial
          have hbits : ∀ j, j < n → (lst bs j).1 < 18446744073709551616 ∧ (lst bs j).2 < 18446744073709551616 ∧ cn (lst bs j).1 = (lst bs j).1 ∧ cn (lst bs j).2 = (lst bs j).2 := fun j hj => lst_bits bs np j HW.out (by have := HN.out; omega)
          obtain ⟨t1, t2, t3, t4, T1, T2, hT1, hT2, t5, t6⟩ := turned_law (lst bs) n i F kk hn2 hlt HF.out.1 HF.out.2.1 HF.out.2.2 hbits hall.1 (hall.2 i hlt) ha hb ha2 hb2 ha3 hb3 ha4 hb4
          have m1 := fun w => run_mul_fin hT1 w
          have m2 := fun w => run_mul_fin hT2 w
          generalize mul a1 F = M1 at *
          generalize mul b1 F = M2 at *
          clear ha hb ha2 hb2 ha3 hb3 ha4 hb4 hall hbits hT1 hT2
          go_upto_region 28 with fail
          go_wp2_with fail
          go_roundw
          case rel => exact ⟨i + 1, by omega, by go_num, hkr⟩
          case measure => simp [intOf]; omega
        · go_wp2_with fail
          go_ret
          exact ⟨rfl, hk011.trans hkr⟩
theorem walk_DirectTurned (w : World) (o : Option Addr) (n c : Nat) (bs : Nat → Int) (hb : NumS .u64 w o n bs) (hw : ∀ j, j < n → (Lit.int .u64 (bs j)).wf = true) (hz : n * 8 ≤ 140737488351232)
    (k : Int) (_ : (Lit.int .i64 k).wf = true) :
    Calls Tryd.prog 7 #[.slice o n c, .int .i64 k] w fun e w' => e = .returned (.bool true) ∧ Kp w w' :=
  turned_ok o n c bs k w (by omega) hb fun j hj => by
    have h := hw j hj
    simp [Lit.wf, IntKind.min, IntKind.max, IntKind.signed, IntKind.bits] at h
    omega
end Go.Proofs.YtmadbdecbkmjkaaDoor
