/-
  The walks of window.Name, element and Window.
-/
import Derived.Test.YtmndkbebcjpkcaaDoorRApiT
namespace Go.Proofs.YtmndkbebcjpkcaaDoor
open Go Go.RowKit Go.Fl Go.Roots

/-- The element k of a window of a kind and a length. -/
def wel (kind n k : Int) : Nat :=
  if kind = 0 then ONE
  else if kind = 3 then (pair (4 * n) (2 * k + 1)).2
  else if kind = 1 then sub 4602678819172646912 (mul 4602678819172646912 (pair n k).1)
  else sub 4603039107142836552 (mul 4601958243232267633 (pair n k).1)
theorem cn_half : cn 4602678819172646912 = 4602678819172646912 := by decide +kernel
theorem cn_base : cn 4603039107142836552 = 4603039107142836552 := by decide +kernel
theorem cn_swing : cn 4601958243232267633 = 4601958243232267633 := by decide +kernel
theorem cn_one : cn 4607182418800017408 = ONE := by decide +kernel

/-- The first k values are f's. -/
def PartF (f : Nat → Nat) (xs : List Value) (k : Nat) : Prop := ∀ j, j < k → ∃ c, xs[j]? = some (.float .f64 c) ∧ cn c = f j
theorem PartF.step {f : Nat → Nat} {xs : List Value} {k c : Nat} (h : PartF f xs k) (hk : k < xs.length) (hc : cn c = f k) : PartF f (xs.set k (.float .f64 c)) (k + 1) := by
  intro j hj
  by_cases e : j = k
  · subst e; exact ⟨c, by simp [hk], hc⟩
  · obtain ⟨c', h1, h2⟩ := h j (by omega)
    exact ⟨c', by rw [List.getElem?_set_ne (by omega)]; exact h1, h2⟩
theorem PartF.snoc {f : Nat → Nat} {xs : List Value} {k c : Nat} (h : PartF f xs k) (hk : xs.length = k) (hc : cn c = f k) : PartF f (xs ++ [.float .f64 c]) (k + 1) := by
  intro j hj
  by_cases e : j = k
  · subst e; exact ⟨c, by simp [hk], hc⟩
  · obtain ⟨c', h1, h2⟩ := h j (by omega)
    exact ⟨c', by rw [List.getElem?_append_left (by omega)]; exact h1, h2⟩

def wname (kind : Int) : ByteArray := if kind = 0 then ⟨#[102, 108, 97, 116]⟩ else if kind = 1 then ⟨#[104, 97, 110, 110]⟩ else if kind = 2 then ⟨#[104, 97, 109, 109, 105, 110, 103]⟩ else if kind = 3 then ⟨#[115, 105, 110, 101]⟩ else ⟨#[]⟩
theorem Name_any (kind : Int) (w : World) :
    Calls Tryd.prog 10 #[.int .i64 kind] w fun e w' => e = .returned (.string (wname kind)) ∧ w = w' := by
  by_cases h0 : kind = 0
  · subst h0
    go_enter Tryd.func10, Tryd.ntmps10
    go_wp2_with fail
    go_ret
    exact ⟨rfl, rfl⟩
  by_cases h1 : kind = 1
  · subst h1
    go_enter Tryd.func10, Tryd.ntmps10
    go_wp2_with fail
    go_ret
    exact ⟨rfl, rfl⟩
  by_cases h2 : kind = 2
  · subst h2
    go_enter Tryd.func10, Tryd.ntmps10
    go_wp2_with fail
    go_ret
    exact ⟨rfl, rfl⟩
  by_cases h3 : kind = 3
  · subst h3
    go_enter Tryd.func10, Tryd.ntmps10
    go_wp2_with fail
    go_ret
    exact ⟨rfl, rfl⟩
  have hn : wname kind = ⟨#[]⟩ := by unfold wname; rw [if_neg h0, if_neg h1, if_neg h2, if_neg h3]
  rw [hn]
  have b0 : (kind == 0) = false := by simpa using h0
  have b1 : (kind == 1) = false := by simpa using h1
  have b2 : (kind == 2) = false := by simpa using h2
  have b3 : (kind == 3) = false := by simpa using h3
  clear h0 h1 h2 h3 hn
  go_enter Tryd.func10, Tryd.ntmps10
  go_wp2_with fail
  go_ret
  exact ⟨rfl, rfl⟩

set_option maxRecDepth 100000 in
set_option maxHeartbeats 400000 in
theorem element_any (kind n k : Int) (w : World) (h0 : 0 ≤ kind) (h3 : kind ≤ 3) (n1 : 1 ≤ n) (n2 : n ≤ 4096) (k0 : 0 ≤ k) (k1 : k < n) :
    Calls Tryd.prog 15 #[.int .i64 kind, .int .i64 n, .int .i64 k] w fun e w' => ∃ c, e = .returned (.tuple #[.float .f64 c, .nilIface]) ∧ cn c = wel kind n k ∧ Kp w w' := by
  have ch := cn_half
  have cb := cn_base
  have cs := cn_swing
  obtain rfl | rfl | rfl | rfl : kind = 0 ∨ kind = 1 ∨ kind = 2 ∨ kind = 3 := by omega
  · go_enter Tryd.func15, Tryd.ntmps15
    go_wp2_with fail
    go_ret2
    exact ⟨_, rfl, cn_one, Kp.refl _⟩
  · go_enter Tryd.func15, Tryd.ntmps15
    go_wp2_with (first
      | (go_at_call 23; (with_reducible refine (Cos_any _ _ _ (by omega) (by omega)).mono ?_); rintro e w2 ⟨c, rfl, hc, hk2⟩)
      | ((with_reducible apply wpList_fl .mul rfl); exact rfl; exact rfl; intro r1 m1 hr1)
      | ((with_reducible apply wpList_fl .sub rfl); exact rfl; exact rfl; intro r2 m2 hr2))
    go_ret2
    refine ⟨_, rfl, ?_, hk2.drewN _⟩
    rw [hr2, hr1, hc, ch]; rfl
  · go_enter Tryd.func15, Tryd.ntmps15
    go_wp2_with (first
      | (go_at_call 23; (with_reducible refine (Cos_any _ _ _ (by omega) (by omega)).mono ?_); rintro e w2 ⟨c, rfl, hc, hk2⟩)
      | ((with_reducible apply wpList_fl .mul rfl); exact rfl; exact rfl; intro r1 m1 hr1)
      | ((with_reducible apply wpList_fl .sub rfl); exact rfl; exact rfl; intro r2 m2 hr2))
    go_ret2
    refine ⟨_, rfl, ?_, hk2.drewN _⟩
    rw [hr2, hr1, hc, cb, cs]; rfl
  · go_enter Tryd.func15, Tryd.ntmps15
    go_wp2_with (go_at_call 22; (with_reducible refine (Sin_any _ _ _ (by omega) (by omega)).mono ?_); rintro e w2 ⟨c, rfl, hc, hk2⟩)
    go_ret2
    exact ⟨_, rfl, hc, hk2⟩

theorem info_f : (Tryd.prog.info? 34).map (fun i => (i.zero, i.size, i.bytes)) = some (some (.float .f64 0), 1, 8) := by kernel_rfl
set_option maxRecDepth 100000 in
set_option maxHeartbeats 400000 in
theorem Window_any (kind : Int) (n : Nat) (w : World) (h0 : 0 ≤ kind) (h3 : kind ≤ 3) (n1 : 1 ≤ n) (n2 : n ≤ 4096) :
    Calls Tryd.prog 6 #[.int .i64 kind, .int .i64 n] w fun e w' => ∃ g xs, e = .returned (.tuple #[.slice (some ⟨g, 0, none⟩) n n, .nilIface]) ∧
      w'.ownsRow w.heap.size 34 1 (.slice (some ⟨g, 0, none⟩) n n) n xs ∧ PartF (fun j => wel kind n j) xs n ∧ Kp w w' := by
  have b1 : decide ((n : Int) < 1) = false := by simp; omega
  have b2 : decide ((4096 : Int) < n) = false := by simp; omega
  have b3 : (wname kind).toList.isEmpty = false := by
    obtain rfl | rfl | rfl | rfl : kind = 0 ∨ kind = 1 ∨ kind = 2 ∨ kind = 3 := by omega
    all_goals decide +kernel
  obtain ⟨i0, hi, hz0, hz1, hz2⟩ := info_parts info_f
  go_enter Tryd.func6, Tryd.ntmps6
  go_wp2_with (first
    | (go_at_call 10; (with_reducible refine (Name_any _ _).mono ?_); rintro e w1 ⟨rfl, rfl⟩)
    | (at_make; refine wpList_make_full _ rfl _ _ 23 rfl w.heap.size 34 i0 (.float .f64 0) 1 Tryd.underlying23 hi hz0 hz1 _ _ _ _ n rfl rfl rfl rfl (by rw [hz2]; omega) (by unfold maxLen; omega) (Nat.le_refl _) ?_))
  intro w1 hown hgrow
  have hk1 : Kp w w1 := (Kp.refl w).grown hgrow (fun k hk => by cases hk)
  clear hgrow hi hz0 hz1 hz2 b3
  go_wp2_with fail
  go_loopw [7, 8, 24] (fun _ _ i wr => ∃ (k : Nat) (xs : List Value), k ≤ n ∧ i = .int .i64 k ∧ wr.ownsRow w.heap.size 34 1 (.slice (some ⟨w.heap.size, 0, none⟩) n n) n xs ∧ PartF (fun j => wel kind n j) xs k ∧ Kp w wr) (fun _ _ i _ => n - (intOf i).toNat)
  case atStart => exact ⟨0, _, by omega, rfl, hown, fun j hj => absurd hj (by omega), hk1⟩
  case round =>
    clear hown hk1
    obtain ⟨k, xs, hk, rfl, hown, hp, hkp⟩ := hrel
    have hlen := hown.1
    by_cases hlt : k < n
    · go_wp2_with (go_at_call 15; (with_reducible refine (element_any _ _ _ _ h0 h3 (by omega) (by omega) (by omega) (by omega)).mono ?_); rintro e w2 ⟨c, rfl, hc, hk2⟩; have hown2 := hk2.owns hown; have hcell := hown2.cellAt k (by omega); rw [List.getElem?_eq_getElem (show k < xs.length by omega)] at hcell; have hfr := hown2.frozenAt k)
      go_roundw
      case rel => exact ⟨k + 1, _, by omega, by go_num, (hown2.stored k _).1, hp.step (by omega) hc, (hkp.trans hk2).setCell (Nat.le_refl _) _⟩
      case measure => simp [intOf]; omega
    · obtain rfl : k = n := by omega
      go_wp2_with fail
      go_ret2
      exact ⟨_, xs, rfl, hown, hp, hkp⟩
set_option maxRecDepth 100000 in
set_option maxHeartbeats 400000 in
theorem Window_mode (kind n : Int) (aM : Addr) (w : World) (hM : errAt w 0 aM) (h : kind < 0 ∨ 3 < kind) :
    Calls Tryd.prog 6 #[.int .i64 kind, .int .i64 n] w fun e w' => e = .returned (.tuple #[.slice none 0 0, .iface 63 (.pointer (some aM))]) ∧ Kp w w' := by
  unfold errAt at hM
  have b3 : (wname kind).toList.isEmpty = true := by
    unfold wname; rw [if_neg (by omega), if_neg (by omega), if_neg (by omega), if_neg (by omega)]; decide +kernel
  clear h
  go_enter Tryd.func6, Tryd.ntmps6
  go_wp2_with (go_at_call 10; (with_reducible refine (Name_any _ _).mono ?_); rintro e w1 ⟨rfl, rfl⟩)
  go_quiet (fail)
  go_wp2_with fail
  go_ret2
  exact ⟨rfl, (Kp.refl _).drewN _⟩
set_option maxRecDepth 100000 in
set_option maxHeartbeats 400000 in
theorem Window_len (kind n : Int) (aL : Addr) (w : World) (hL : errAt w 1 aL) (h0 : 0 ≤ kind) (h3 : kind ≤ 3) (h : n < 1 ∨ 4096 < n) :
    Calls Tryd.prog 6 #[.int .i64 kind, .int .i64 n] w fun e w' => e = .returned (.tuple #[.slice none 0 0, .iface 63 (.pointer (some aL))]) ∧ Kp w w' := by
  unfold errAt at hL
  have b3 : (wname kind).toList.isEmpty = false := by
    obtain rfl | rfl | rfl | rfl : kind = 0 ∨ kind = 1 ∨ kind = 2 ∨ kind = 3 := by omega
    all_goals decide +kernel
  rcases h with h | h
  · have b1 : decide (n < 1) = true := by simpa using h
    go_enter Tryd.func6, Tryd.ntmps6
    go_wp2_with (go_at_call 10; (with_reducible refine (Name_any _ _).mono ?_); rintro e w1 ⟨rfl, rfl⟩)
    go_quiet (fail)
    go_wp2_with fail
    go_ret2
    exact ⟨rfl, (Kp.refl _).drewN _⟩
  · have b1 : decide (n < 1) = false := by simp; omega
    have b2 : decide (4096 < n) = true := by simpa using h
    go_enter Tryd.func6, Tryd.ntmps6
    go_wp2_with (go_at_call 10; (with_reducible refine (Name_any _ _).mono ?_); rintro e w1 ⟨rfl, rfl⟩)
    go_quiet (fail)
    go_wp2_with fail
    go_ret2
    exact ⟨rfl, (Kp.refl _).drewN _⟩
end Go.Proofs.YtmndkbebcjpkcaaDoor
