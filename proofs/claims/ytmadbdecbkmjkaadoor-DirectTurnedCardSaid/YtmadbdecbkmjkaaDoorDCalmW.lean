/-
  The walks of layer 10's calm and of Ldexp at 1.
-/
import Derived.Test.YtmadbdecbkmjkaaDoorDWatch
import Derived.Laws.Bits64b
namespace Go.Proofs.YtmadbdecbkmjkaaDoor
open Go Go.RowKit Go.Fl Go.Roots Go.Calm

theorem Kb.to_kp {w w' : World} {o : Obj} (h : Kb w.heap.size (w.alloc o) w') : Kp w w' :=
  ⟨h.os, h.tape, h.output, by have := h.size; simp at this; omega, fun k hk => (h.block k (by simp; omega) (by omega)).trans (Below.heap_alloc w o k hk)⟩
set_option maxRecDepth 100000 in
set_option maxHeartbeats 1000000 in
theorem calm_any (g n cap : Nat) (f : Nat → Nat × Nat) (w : World) (n1 : 1 ≤ n) (n2 : n ≤ 1024) (hf : Has w g n f) (hg : g < w.heap.size) :
    Calls Tryd.prog 27 #[.slice (some ⟨g, 0, none⟩) n cap] w fun e w' => ∃ c : Bool, e = .returned (.bool c) ∧ (c = true → (∀ j, j < n → seeC (f j)) ∧ ∀ k, k < n → ∀ j, 1 ≤ j → j < n → sumC f n k j) ∧ Kp w w' := by
  have hwb0 : WB (w.alloc (.cells #[.bool false] 78)) w.heap.size false := heap_alloc_new w _
  have hf0 : Has (w.alloc (.cells #[.bool false] 78)) g n f := hf.kp ((Kp.refl w).alloc _)
  have hsz : (w.alloc (.cells #[.bool false] 78)).heap.size = w.heap.size + 1 := by simp
  have HK : Hid (∀ x, Kb w.heap.size (w.alloc (.cells #[.bool false] 78)) x → Kp w x) := Lib.hid fun x h => h.to_kp
  obtain ⟨bw, hbw⟩ : ∃ bw, w.heap.size = bw := ⟨_, rfl⟩
  have hgb : g < bw := by omega
  obtain ⟨w0, hw0⟩ : ∃ w0, w.alloc (.cells #[.bool false] 78) = w0 := ⟨_, rfl⟩
  rw [hw0, hbw] at hwb0 HK
  rw [hw0] at hf0 hsz
  have hg0 : g < w0.heap.size := by omega
  have hne : g ≠ bw := by omega
  go_enter Tryd.func27, Tryd.ntmps27
  go_wp2_with fail
  clear hw0 hf hsz hbw
  go_loopw [5, 11] (fun _ i wr => ∃ (k : Nat) (b' : Bool), k ≤ n ∧ i = .int .i64 k ∧ WB wr bw b' ∧ Hid (b' = false → ∀ j, j < k → seeC (f j)) ∧ Kb bw w0 wr) (fun _ i _ => n - (intOf i).toNat)
  case atStart => exact ⟨0, false, by omega, rfl, hwb0, Lib.hid fun _ j hj => by omega, Kb.refl _ _⟩
  case round =>
    obtain ⟨k, b', hk, rfl, hwb, HC, hkb⟩ := hrel
    by_cases hlt : k < n
    · obtain ⟨c1, s1, q1, hc1, hs1⟩ := hf0.kb hkb hg0 hne k hlt
      go_wp2_with (go_at_call 44; (with_reducible refine (SeeC_any bw b' c1 s1 _ hwb).mono ?_); rintro e w2 ⟨rfl, ⟨b2, hb2, hp2⟩, hk2⟩; have H2 := Lib.hid hp2; clear hp2)
      have HC2 : Hid (b2 = false → ∀ j, j < k + 1 → seeC (f j)) := Lib.hid fun h j hj => by
        obtain ⟨h, p⟩ := H2.out h
        by_cases hjk : j < k
        · exact HC.out h j hjk
        · obtain rfl : j = k := by omega
          rw [hc1, hs1] at p; exact p
      go_roundw
      case rel => exact ⟨k + 1, b2, by omega, by go_num, hb2, HC2, hkb.trans hk2⟩
      case measure => simp [intOf]; omega
    · obtain rfl : n = k := by omega
      obtain ⟨w1, rfl⟩ : ∃ w1 : World, w1 = wr := ⟨_, rfl⟩
      go_wp2_with fail
      go_loopw [6, 21] (fun _ i wr => ∃ (k : Nat) (c' : Bool), k ≤ n ∧ i = .int .i64 k ∧ WB wr bw c' ∧ Hid (c' = false → (∀ j, j < n → seeC (f j)) ∧ ∀ q, q < k → ∀ j, 1 ≤ j → j < n → sumC f n q j) ∧ Kb bw w0 wr) (fun _ i _ => n - (intOf i).toNat)
      case atStart => exact ⟨0, b', by omega, rfl, hwb, Lib.hid fun h => ⟨HC.out h, fun q hq => by omega⟩, hkb⟩
      case round =>
        obtain ⟨k, c', hk, rfl, hwb, HC, hkb⟩ := hrel
        by_cases hlt : k < n
        · have hfk := hf0.kb hkb hg0 hne
          have hgk : g < wr.heap.size := Nat.lt_of_lt_of_le hg0 hkb.size
          go_wp2_with (go_at_call 45; (with_reducible refine (Watched_any bw c' g n cap k f _ n1 n2 hlt hwb hfk hgk hne).mono ?_); rintro e w2 ⟨⟨c2, s2, rfl⟩, ⟨b2, hb2, hp2⟩, hk2⟩; have H2 := Lib.hid hp2; clear hp2)
          have HC2 : Hid (b2 = false → (∀ j, j < n → seeC (f j)) ∧ ∀ q, q < k + 1 → ∀ j, 1 ≤ j → j < n → sumC f n q j) := Lib.hid fun h => by
            obtain ⟨h, p⟩ := H2.out h
            refine ⟨(HC.out h).1, fun q hq => ?_⟩
            by_cases hjk : q < k
            · exact (HC.out h).2 q hjk
            · obtain rfl : q = k := by omega
              exact p
          go_roundw
          case rel => exact ⟨k + 1, b2, by omega, by go_num, hb2, HC2, hkb.trans hk2⟩
          case measure => simp [intOf]; omega
        · obtain rfl : n = k := by omega
          have q1 := hwb.cell
          go_wp2_with fail
          go_ret
          refine ⟨!c', rfl, fun h => HC.out (by simpa using h), HK.out _ hkb⟩

set_option maxRecDepth 100000 in
set_option maxHeartbeats 400000 in
theorem Abs_one (w : World) : Calls Tryd.prog 67 #[.float .f64 4607182418800017408] w fun e w' => e = .returned (.float .f64 4607182418800017408) ∧ w = w' := by
  go_enter Tryd.func67, Tryd.ntmps67
  go_wp2_with fail
  go_ret
  exact ⟨rfl, rfl⟩
set_option maxRecDepth 100000 in
set_option maxHeartbeats 400000 in
theorem IsInf_one (w : World) : Calls Tryd.prog 57 #[.float .f64 4607182418800017408, .int .i64 0] w fun e w' => e = .returned (.bool false) ∧ w = w' := by
  have h1 : (ord (cn 4607182418800017408) (cn 9218868437227405311) == some .gt) = false := by decide +kernel
  go_enter Tryd.func57, Tryd.ntmps57
  go_wp2_with (go_at_call 67; (with_reducible refine (Abs_one _).mono ?_); rintro e w1 ⟨rfl, rfl⟩)
  go_ret
  exact ⟨rfl, rfl⟩
set_option maxRecDepth 100000 in
set_option maxHeartbeats 400000 in
theorem IsNaN_one (w : World) : Calls Tryd.prog 58 #[.float .f64 4607182418800017408] w fun e w' => e = .returned (.bool false) ∧ w = w' := by
  have h1 : (ord (cn 4607182418800017408) (cn 4607182418800017408) != some .eq) = false := by decide +kernel
  go_enter Tryd.func58, Tryd.ntmps58
  go_wp2_with fail
  go_ret
  exact ⟨rfl, rfl⟩
set_option maxRecDepth 100000 in
set_option maxHeartbeats 400000 in
theorem normalize_one (w : World) : Calls Tryd.prog 59 #[.float .f64 4607182418800017408] w fun e w' => e = .returned (.tuple #[.float .f64 4607182418800017408, .int .i64 0]) ∧ w = w' := by
  have h1 : (ord (cn 4607182418800017408) (cn 4503599627370496) == some .lt) = false := by decide +kernel
  go_enter Tryd.func59, Tryd.ntmps59
  go_wp2_with (go_at_call 67; (with_reducible refine (Abs_one _).mono ?_); rintro e w1 ⟨rfl, rfl⟩)
  go_ret2
  exact ⟨rfl, rfl⟩
set_option maxRecDepth 100000 in
set_option maxHeartbeats 400000 in
theorem ldexp_one (k : Int) (h1 : -64 ≤ k) (h2 : k ≤ 64) (w : World) : Calls Tryd.prog 47 #[.float .f64 4607182418800017408, .int .i64 k] w fun e w' => ∃ r, e = .returned (.float .f64 r) ∧ cn r = pw k ∧ Kp w w' := by
  have e0 := cn_0
  have t1 : (ord (cn 4607182418800017408) 0 == some .eq) = false := by decide +kernel
  have b1 : bits BinOp.and IntKind.i64 1023 2047 = 1023 := by decide +kernel
  have b2 : bits BinOp.andNot IntKind.u64 4607182418800017408 9218868437227405312 = 0 := by decide +kernel
  go_enter Tryd.func47, Tryd.ntmps47
  go_wp2_with (first
    | (go_at_call 57; (with_reducible refine (IsInf_one _).mono ?_); rintro e w1 ⟨rfl, rfl⟩)
    | (go_at_call 58; (with_reducible refine (IsNaN_one _).mono ?_); rintro e w1 ⟨rfl, rfl⟩)
    | (go_at_call 59; (with_reducible refine (normalize_one _).mono ?_); rintro e w1 ⟨rfl, rfl⟩)
    | ((with_reducible apply wpList_fl .mul rfl); exact rfl; exact rfl; intro r1 m1 hr1))
  go_ret
  refine ⟨_, rfl, ?_, (Kp.refl w).drewN _⟩
  obtain ⟨q, hq, hql⟩ : ∃ q : Nat, (k + 1023) * 4503599627370496 = (q : Int) ∧ q = pw k := ⟨pw k, by unfold pw; omega, rfl⟩
  have hlt : q < 0x7ff0000000000000 := by
    have := (pw_FV k h1 h2)
    rw [hql]
    obtain ⟨s, z, e, hz, _⟩ := this
    have e2 : pw k < 9223372036854775808 := by unfold pw; omega
    cases s
    · rw [word_false] at e; rw [e]; exact hz
    · rw [word_pos] at e; rw [e] at e2; exact absurd (Nat.le_add_right _ _) (Nat.not_le.2 e2)
  have hb : bits BinOp.or IntKind.u64 0 (q : Int) = (q : Int) := by
    have := bits_or_u64_nat 0 q (by decide) (Nat.lt_trans hlt (by decide))
    rw [show ((0 : Nat) : Int) = 0 from rfl] at this
    rw [this, Nat.zero_or]
  rw [hr1, hq, hb]
  have hc : cn 4607182418800017408 = ONE := by decide +kernel
  rw [Int.toNat_natCast, hc, ← hql]
  have hcq : cn q = q := cn_of_not q (by have := isN_word false q (by rw [infRung_double]; exact Nat.le_of_lt hlt); rwa [word_false] at this)
  rw [hcq]
  exact mul_one_left q hlt
set_option maxRecDepth 100000 in
set_option maxHeartbeats 400000 in
theorem Ldexp_one (k : Int) (h1 : -64 ≤ k) (h2 : k ≤ 64) (w : World) : Calls Tryd.prog 28 #[.float .f64 4607182418800017408, .int .i64 k] w fun e w' => ∃ r, e = .returned (.float .f64 r) ∧ cn r = pw k ∧ Kp w w' := by
  go_enter Tryd.func28, Tryd.ntmps28
  go_wp2_with (go_at_call 47; (with_reducible refine (ldexp_one k h1 h2 _).mono ?_); rintro e w1 ⟨r, rfl, hr, hk⟩)
  go_ret
  exact ⟨r, rfl, hr, hk⟩
end Go.Proofs.YtmadbdecbkmjkaaDoor
