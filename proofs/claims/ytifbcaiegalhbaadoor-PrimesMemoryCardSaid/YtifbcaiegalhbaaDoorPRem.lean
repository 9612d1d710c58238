/-
  The walks of math/bits.Div64, Rem64.
-/
import Derived.Test.YtifbcaiegalhbaaDoorPGcd
import Derived.Test.YtifbcaiegalhbaaDoorPBits
import Derived.Test.YtifbcaiegalhbaaDoorPDiv
import Derived.Lib.ItoaNum
import Derived.Deep.DeepCutAuto
import Derived.Deep.CutBlock
namespace Go.Proofs.YtifbcaiegalhbaaDoor
open Go Go.RowKit Go.Fl Go.Pr

theorem wrapN (a : Nat) (ha : a < 18446744073709551616) : IntKind.u64.wrap (a : Int) = (a : Int) := by rw [IntKind.wrap_u64]; omega
theorem wrapM (a : Nat) : IntKind.u64.wrap (a : Int) = ((a % 18446744073709551616 : Nat) : Int) := by rw [IntKind.wrap_u64]; omega
theorem wrap_mul (a b : Nat) : IntKind.u64.wrap ((a : Int) * (b : Int)) = ((a * b % 18446744073709551616 : Nat) : Int) := by rw [← Int.natCast_mul, wrapM]
theorem wrap_add (a b : Nat) : IntKind.u64.wrap ((a : Int) + (b : Int)) = (((a + b) % 18446744073709551616 : Nat) : Int) := by rw [← Int.natCast_add, wrapM]
theorem wrap_sub (a b : Nat) (hb : b < 18446744073709551616) : IntKind.u64.wrap ((a : Int) - (b : Int)) = (((a + (18446744073709551616 - b)) % 18446744073709551616 : Nat) : Int) := by rw [IntKind.wrap_u64]; omega
theorem maskN (a : Nat) (ha : a < 18446744073709551616) : bits .and .u64 (a : Int) 4294967295 = ((a % 4294967296 : Nat) : Int) := by
  have h := bits_and_u64_nat a 4294967295 ha (by omega)
  have e : a &&& 4294967295 = a % 4294967296 := Nat.and_two_pow_sub_one_eq_mod a 32
  rw [e] at h
  exact h

theorem LZ_any (y : Nat) (w : World) (h0 : 0 < y) (h2 : y < 18446744073709551616) :
    Calls Tryd.prog 48 #[.int .u64 y] w fun e w' => ∃ s : Nat, e = .returned (.int .i64 s) ∧ s ≤ 63 ∧ Hid (9223372036854775808 ≤ y * 2 ^ s ∧ y * 2 ^ s < 18446744073709551616) ∧ w = w' := by
  refine (Tryd.bits_LeadingZeros64 _ w (by omega) (by omega)).mono ?_
  rintro e w' ⟨rfl, rfl⟩
  obtain ⟨b1, b2, b3⟩ := Lib.bitLenAux_bounds 64 y (by omega) (by omega)
  have hb := Lib.bitLen_le y 64 (by omega) (by omega)
  simp only [Int.toNat_natCast]
  show ∃ s : Nat, Ending.returned (.int .i64 (64 - (Lib.bitLenAux 64 y : Int))) = _ ∧ _
  have hb' : Lib.bitLenAux 64 y ≤ 64 := hb
  generalize Lib.bitLenAux 64 y = L at *
  refine ⟨64 - L, ret_i (by omega), by omega, Lib.hid ⟨?_, ?_⟩, (by first | rfl | trivial)⟩
  · have h5 := Nat.mul_le_mul_right (2 ^ (64 - L)) b2
    rw [← Nat.pow_add, show L - 1 + (64 - L) = 63 by omega] at h5
    exact h5
  · have h5 := Nat.mul_lt_mul_of_pos_right b3 (Nat.pow_pos (n := 64 - L) (show 0 < 2 by omega))
    rw [← Nat.pow_add, show L + (64 - L) = 64 by omega] at h5
    exact h5

theorem ret_qr {q r q' r' : Int} (h1 : q = q') (h2 : r = r') : Ending.returned (.tuple #[.int .u64 q, .int .u64 r]) = .returned (.tuple #[.int .u64 q', .int .u64 r']) := by rw [h1, h2]
/-- The words that Div64 makes ahead of its first digit. -/
theorem setup (hi lo y s : Nat) (h1 : hi < y) (h3 : lo < 18446744073709551616) (hs : s ≤ 63) (hY1 : 9223372036854775808 ≤ y * 2 ^ s) (hY2 : y * 2 ^ s < 18446744073709551616) :
    ∃ Y v1 v0 A t B U D d1 d0 : Nat, IntKind.u64.wrap ((y : Int) * 2 ^ s) = (Y : Int) ∧ (Y : Int) / 4294967296 = (v1 : Int) ∧ bits .and .u64 (Y : Int) 4294967295 = (v0 : Int) ∧
      IntKind.u64.wrap ((hi : Int) * 2 ^ s) = (A : Int) ∧ IntKind.u64.wrap (64 - (s : Int)) = (t : Int) ∧ (lo : Int) / 2 ^ t = (B : Int) ∧ bits .or .u64 (A : Int) (B : Int) = (U : Int) ∧
      IntKind.u64.wrap ((lo : Int) * 2 ^ s) = (D : Int) ∧ (D : Int) / 4294967296 = (d1 : Int) ∧ bits .and .u64 (D : Int) 4294967295 = (d0 : Int) ∧
      t ≤ 64 ∧ U < Y ∧ Y < 18446744073709551616 ∧ 2147483648 ≤ v1 ∧ v1 < 4294967296 ∧ v0 < 4294967296 ∧ d1 < 4294967296 ∧ d0 < 4294967296 ∧ Hid (Y = v1 * 4294967296 + v0 ∧ Y = y * 2 ^ s ∧ U * 18446744073709551616 + D = (hi * 18446744073709551616 + lo) * 2 ^ s ∧ D = d1 * 4294967296 + d0) := by
  have hp : 0 < 2 ^ s := Nat.pow_pos (by omega)
  have hpp : 2 ^ (64 - s) * 2 ^ s = 18446744073709551616 := by rw [← Nat.pow_add, show 64 - s + s = 64 by omega]
  have ehi : hi * 2 ^ s < y * 2 ^ s := Nat.mul_lt_mul_of_pos_right h1 hp
  have eB : lo / 2 ^ (64 - s) < 2 ^ s := by rw [Nat.div_lt_iff_lt_mul (Nat.pow_pos (by omega)), Nat.mul_comm, hpp]; exact h3
  have hA : hi * 2 ^ s ||| lo / 2 ^ (64 - s) = hi * 2 ^ s + lo / 2 ^ (64 - s) := by
    have := Nat.shiftLeft_add_eq_or_of_lt eB hi
    rw [Nat.shiftLeft_eq] at this
    exact this.symm
  have hU : hi * 2 ^ s + lo / 2 ^ (64 - s) < y * 2 ^ s := by
    have := Nat.mul_le_mul_right (2 ^ s) h1
    rw [Nat.succ_mul] at this
    omega
  have hD : lo * 2 ^ s = lo / 2 ^ (64 - s) * 18446744073709551616 + lo * 2 ^ s % 18446744073709551616 := by
    have h5 : lo * 2 ^ s / 18446744073709551616 = lo / 2 ^ (64 - s) := by
      rw [← hpp, Nat.mul_div_mul_right _ _ hp]
    have := Nat.div_add_mod (lo * 2 ^ s) 18446744073709551616
    rw [h5] at this
    omega
  have c1 : ∀ z : Nat, (z : Int) * 2 ^ s = ((z * 2 ^ s : Nat) : Int) := fun z => by rw [Int.natCast_mul, Int.natCast_pow]; rfl
  have c2 : (lo : Int) / 2 ^ (64 - s) = ((lo / 2 ^ (64 - s) : Nat) : Int) := by rw [Int.natCast_ediv, Int.natCast_pow]; rfl
  refine ⟨y * 2 ^ s, y * 2 ^ s / 4294967296, y * 2 ^ s % 4294967296, hi * 2 ^ s, 64 - s, lo / 2 ^ (64 - s), hi * 2 ^ s + lo / 2 ^ (64 - s), lo * 2 ^ s % 18446744073709551616, lo * 2 ^ s % 18446744073709551616 / 4294967296, lo * 2 ^ s % 18446744073709551616 % 4294967296,
    ?_, ?_, ?_, ?_, ?_, ?_, ?_, ?_, ?_, ?_, by omega, hU, hY2, by omega, by omega, by omega, by omega, by omega, Lib.hid ⟨by omega, rfl, ?_, by omega⟩⟩
  · rw [c1, wrapN _ hY2]
  · omega
  · exact maskN _ hY2
  · rw [c1, wrapN _ (by omega)]
  · rw [show (64 : Int) - (s : Int) = ((64 - s : Nat) : Int) by omega, wrapN _ (by omega)]
  · exact c2
  · rw [bits_or_u64_nat _ _ (by omega) (by omega), hA]
  · rw [c1, wrapM]
  · omega
  · exact maskN _ (Nat.mod_lt _ (by omega))
  · rw [Nat.add_mul (hi * 18446744073709551616), hD]
    have : hi * 18446744073709551616 * 2 ^ s = hi * 2 ^ s * 18446744073709551616 := by rw [Nat.mul_right_comm]
    omega
/-- A digit's first guess. -/
theorem guess0 (U v1 : Nat) (h1 : 2147483648 ≤ v1) (hU : U < 18446744073709551616) : ∃ q r : Nat, Hid (IntKind.u64.wrap ((U : Int) / (v1 : Int)) = (q : Int) ∧ IntKind.u64.wrap ((U : Int) - IntKind.u64.wrap (IntKind.u64.wrap ((U : Int) / (v1 : Int)) * (v1 : Int))) = (r : Int)) ∧ q = U / v1 ∧ r = U % v1 := by
  have h2 := Nat.div_add_mod U v1
  have h3 : U / v1 * v1 ≤ U := by rw [Nat.mul_comm]; omega
  refine ⟨U / v1, U % v1, Lib.hid ⟨?_, ?_⟩, rfl, rfl⟩
  · rw [← Int.natCast_ediv, wrapN]; have := Nat.div_le_self U v1; omega
  rw [← Int.natCast_ediv, wrapN (U / v1) (by have := Nat.div_le_self U v1; omega), wrap_mul, Nat.mod_eq_of_lt (show U / v1 * v1 < 18446744073709551616 by omega), ← Int.natCast_sub h3, show U - U / v1 * v1 = U % v1 by rw [Nat.mul_comm]; omega, wrapN]
  have := Nat.mod_le U v1
  omega
/-- What is left of a word behind a digit. -/
theorem left0 (U d Y v1 v0 : Nat) (hY : Y = v1 * 4294967296 + v0) (hYb : Y < 18446744073709551616) (hY0 : 0 < Y) : ∃ x1 x2 x3 V : Nat, IntKind.u64.wrap ((U : Int) * 4294967296) = (x1 : Int) ∧ IntKind.u64.wrap ((x1 : Int) + (d : Int)) = (x2 : Int) ∧
    IntKind.u64.wrap ((((U * 4294967296 + d) / (v1 * 4294967296 + v0) : Nat) : Int) * (Y : Int)) = (x3 : Int) ∧ IntKind.u64.wrap ((x2 : Int) - (x3 : Int)) = (V : Int) ∧ V = (U * 4294967296 + d) % Y := by
  refine ⟨U * 4294967296 % 18446744073709551616, (U * 4294967296 % 18446744073709551616 + d) % 18446744073709551616, (U * 4294967296 + d) / (v1 * 4294967296 + v0) * Y % 18446744073709551616, (U * 4294967296 + d) % Y, ?_, wrap_add _ _, wrap_mul _ _, ?_, rfl⟩
  · exact wrap_mul U 4294967296
  · rw [wrap_sub _ _ (Nat.mod_lt _ (by omega)), ← hY, Nat.mod_add_mod (U * 4294967296)]
    congr 1
    have h1 : (U * 4294967296 + d) % Y < Y := Nat.mod_lt _ hY0
    have h2 : U * 4294967296 + d = (U * 4294967296 + d) / Y * Y + (U * 4294967296 + d) % Y := by have := Nat.div_add_mod (U * 4294967296 + d) Y; rw [Nat.mul_comm] at this; omega
    exact rest_wrap (by omega) h2
/-- The test of a guess. -/
theorem test0 (q v0 r d : Nat) (hq : q ≤ 4294967297) (h0 : v0 < 4294967296) (hr : r < 4294967296) (hd : d < 4294967296) : ∃ m1 m2 m3 : Nat, IntKind.u64.wrap ((q : Int) * (v0 : Int)) = (m1 : Int) ∧ IntKind.u64.wrap (4294967296 * (r : Int)) = (m2 : Int) ∧ IntKind.u64.wrap ((m2 : Int) + (d : Int)) = (m3 : Int) ∧ Hid (m1 = q * v0 ∧ m3 = 4294967296 * r + d) := by
  have h1 := Nat.mul_le_mul hq (show v0 ≤ 4294967295 by omega)
  refine ⟨q * v0, 4294967296 * r, 4294967296 * r + d, ?_, ?_, ?_, Lib.hid ⟨rfl, rfl⟩⟩
  · rw [← Int.natCast_mul, wrapN _ (by omega)]
  · have := wrap_mul 4294967296 r
    rw [Nat.mod_eq_of_lt (by omega)] at this
    exact this
  · rw [← Int.natCast_add, wrapN _ (by omega)]

set_option maxRecDepth 100000 in
set_option maxHeartbeats 1000000 in
theorem Div64_big (hi lo y : Nat) (w : World) (h0 : 0 < hi) (h1 : hi < y) (h2 : y < 18446744073709551616) (h3 : lo < 18446744073709551616) :
    Calls Tryd.prog 43 #[.int .u64 hi, .int .u64 lo, .int .u64 y] w fun e w' => ∃ q : Int, e = .returned (.tuple #[.int .u64 q, .int .u64 (((hi * 18446744073709551616 + lo) % y : Nat) : Int)]) ∧ w = w' := by
  have d1 : ((y : Int) == 0) = false := by rw [beq_eq_false_iff_ne]; omega
  have d2 : decide ((y : Int) ≤ (hi : Int)) = false := by simp; omega
  have d3 : ((hi : Int) == 0) = false := by rw [beq_eq_false_iff_ne]; omega
  go_enter Tryd.func43, Tryd.ntmps43
  go_upto_block 0 with (go_at_call 48; (with_reducible refine (LZ_any _ _ (by omega) (by omega)).mono ?_); rintro e w1 ⟨s, rfl, hs, hY, rfl⟩; obtain ⟨Y, v1, v0, A, t, B, U, D, dd, dl, e1, e2, e3, e4, e5, e6, e7, e8, e9, e10, ht, hUY, hYb, hv1, hv1', hv0, hd1, hd0, HH⟩ := setup hi lo y s h1 h3 hs hY.out.1 hY.out.2; obtain ⟨q0, r0, HF, hq0, hr0⟩ := guess0 U v1 hv1 (by omega))
  have g1 := guess_first (b := 4294967296) (v1 := v1) (v0 := v0) (u := U) (d := dd) hd1 (by omega)
  have g2 := guess_most (b := 4294967296) (v1 := v1) (v0 := v0) (u := U) (by have := HH.out.1; omega) hv0 (by omega)
  have g3 := guess_lt (b := 4294967296) (u := U) (v := v1 * 4294967296 + v0) (by have := HH.out.1; omega) hd1
  have hqr : U = q0 * v1 + r0 := by rw [hq0, hr0]; have := Nat.div_add_mod U v1; rw [Nat.mul_comm] at this; omega
  rw [← hq0] at g1 g2
  have hr0' : r0 < v1 := by rw [hr0]; exact Nat.mod_lt _ (by omega)
  clear hq0 hr0
  have HE := Lib.hid e5
  clear e1 e2 e3 e4 e5 e6 e7 e8 e9 e10
  obtain ⟨Q, hQd⟩ : ∃ Q, (U * 4294967296 + dd) / (v1 * 4294967296 + v0) = Q := ⟨_, rfl⟩
  rw [hQd] at g1 g3
  have HQ := Lib.hid hQd
  have HG := Lib.hid hqr
  clear hQd hqr
  go_cut [15, 16] (fun q _ wx => q = .int .u64 (Q : Int) ∧ w = wx)
  case first =>
    go_wp2_with fail
    go_loop [15, 16] (fun x z => ∃ q r : Nat, x = .int .u64 q ∧ z = .int .u64 r ∧ q ≤ 4294967297 ∧ r < 4294967296 ∧ Q ≤ q ∧ Hid (U = q * v1 + r)) (fun x _ => (intOf x).toNat)
    case atStart => exact ⟨q0, r0, congrArg (Value.int .u64) HF.out.1, congrArg (Value.int .u64) HF.out.2, g2, by omega, g1, HG⟩
    case round =>
      clear HG g1 g2
      obtain ⟨q, r, rfl, rfl, hq, hr, hQ, HG⟩ := hrel
      obtain ⟨m1, m2, m3, k1, k2, k3, HM⟩ := test0 q v0 r dd hq hv0 hr hd1
      by_cases hT : 4294967296 ≤ q ∨ m3 < m1
      · -- the guess is too great
        have hdown : Q < q := by
          rcases hT with hT | hT
          · omega
          · have := HM.out
            rw [← HQ.out]
            exact guess_down HG.out (by omega) (by omega)
        have n1 : IntKind.u64.wrap ((q : Int) - 1) = ((q - 1 : Nat) : Int) := by rw [IntKind.wrap_u64]; omega
        have b4 : 4294967296 ≤ q ∨ (q < 4294967296 ∧ m3 < m1) := by omega
        have HN : Hid (U = (q - 1) * v1 + (r + v1)) := by
          have := HG.out
          obtain ⟨k, rfl⟩ : ∃ k, q = k + 1 := ⟨q - 1, by omega⟩
          rw [Nat.add_mul] at this
          refine Lib.hid ?_
          rw [Nat.add_sub_cancel]; omega
        clear hT
        have n2 : IntKind.u64.wrap ((r : Int) + (v1 : Int)) = (r : Int) + (v1 : Int) := by rw [IntKind.wrap_u64]; omega
        by_cases hL : 4294967296 ≤ r + v1
        · have HL : Hid (Q = q - 1) := by
            refine Lib.hid (HQ.out.symm.trans (guess_done HN.out ?_ (by omega) (by rw [HQ.out]; omega)))
            have h6 := Nat.mul_le_mul (show q - 1 ≤ 4294967296 by omega) (show v0 ≤ 4294967295 by omega)
            omega
          have t3 : decide ((4294967296 : Int) ≤ (r : Int) + (v1 : Int)) = true := by simp; omega
          clear hL
          rcases b4 with b4 | ⟨b4, b5⟩
          · have t1 : decide ((4294967296 : Int) ≤ (q : Int)) = true := by simp; omega
            clear b4 hdown g3 hd1 hd0 hv1 hv1' hv0 hYb h2 h3 hq hr hQ
            go_wp2_with fail
            go_meet
            exact ⟨congrArg (Value.int .u64) (by rw [HL.out]), rfl⟩
          · have t1 : decide ((4294967296 : Int) ≤ (q : Int)) = false := by simp; omega
            have t2 : decide ((m3 : Int) < (m1 : Int)) = true := by simp; omega
            clear b4 hdown g3 hd1 hd0 hv1 hv1' hv0 hYb h2 h3 hq hr hQ
            go_wp2_with fail
            go_meet
            exact ⟨congrArg (Value.int .u64) (by rw [HL.out]), rfl⟩
        · have t3 : decide ((4294967296 : Int) ≤ (r : Int) + (v1 : Int)) = false := by simp; omega
          have HR : Hid (r + v1 < 4294967296 ∧ q - 1 ≤ 4294967297 ∧ Q ≤ q - 1 ∧ q - 1 < q) := Lib.hid ⟨by omega, by omega, by omega, by omega⟩
          clear hL
          rcases b4 with b4 | ⟨b4, b5⟩
          · have t1 : decide ((4294967296 : Int) ≤ (q : Int)) = true := by simp; omega
            clear b4 hdown g3 hd1 hd0 hv1 hv1' hv0 hYb h2 h3 hq hr hQ
            go_wp2_with fail
            go_round
            case rel => exact ⟨q - 1, r + v1, rfl, by go_num, HR.out.2.1, HR.out.1, HR.out.2.2.1, HN⟩
            case measure => have := HR.out; simp [intOf]; omega
          · have t1 : decide ((4294967296 : Int) ≤ (q : Int)) = false := by simp; omega
            have t2 : decide ((m3 : Int) < (m1 : Int)) = true := by simp; omega
            clear b4 hdown g3 hd1 hd0 hv1 hv1' hv0 hYb h2 h3 hq hr hQ
            go_wp2_with fail
            go_round
            case rel => exact ⟨q - 1, r + v1, rfl, by go_num, HR.out.2.1, HR.out.1, HR.out.2.2.1, HN⟩
            case measure => have := HR.out; simp [intOf]; omega
      · have t1 : decide ((4294967296 : Int) ≤ (q : Int)) = false := by simp; omega
        have t2 : decide ((m3 : Int) < (m1 : Int)) = false := by simp; omega
        have t2' : ¬ m3 < m1 := by omega
        have HL : Hid (Q = q) := by
          have := HM.out
          exact Lib.hid (HQ.out.symm.trans (guess_done HG.out (by omega) (by omega) (by rw [HQ.out]; exact hQ)))
        clear hT g3 hd1 hd0 hv1 hv1' hv0 hYb h2 h3 hq hr hQ
        go_wp2_with fail
        go_meet
        exact ⟨congrArg (Value.int .u64) (by rw [HL.out]), rfl⟩
  case rest =>
    obtain ⟨rfl, rfl⟩ := hcut
    obtain ⟨x1, x2, x3, V, l1, l2, l3, l4, hV⟩ := left0 U dd Y v1 v0 HH.out.1 hYb (by omega)
    rw [HQ.out] at l3
    have HV := Lib.hid hV
    clear hV g1 g2 HG HF
    have hVb : V < Y := by rw [HV.out]; exact Nat.mod_lt _ (by omega)
    obtain ⟨q9, r9, HF2, hq9, hr9⟩ := guess0 V v1 hv1 (by omega)
    have k1' := guess_first (b := 4294967296) (v1 := v1) (v0 := v0) (u := V) (d := dl) hd0 (by omega)
    have k2' := guess_most (b := 4294967296) (v1 := v1) (v0 := v0) (u := V) (by have := HH.out.1; omega) hv0 (by omega)
    have k3' := guess_lt (b := 4294967296) (u := V) (v := v1 * 4294967296 + v0) (by have := HH.out.1; omega) hd0
    have hqr9 : V = q9 * v1 + r9 := by rw [hq9, hr9]; have := Nat.div_add_mod V v1; rw [Nat.mul_comm] at this; omega
    rw [← hq9] at k1' k2'
    have hr9' : r9 < v1 := by rw [hr9]; exact Nat.mod_lt _ (by omega)
    clear hq9 hr9
    obtain ⟨Q2, hQd2⟩ : ∃ Q, (V * 4294967296 + dl) / (v1 * 4294967296 + v0) = Q := ⟨_, rfl⟩
    rw [hQd2] at k1' k3'
    have HQ2 := Lib.hid hQd2
    have HG9 := Lib.hid hqr9
    clear hQd2 hqr9
    go_upto_block 2 with fail
    clear l1 l2 l3 l4
    go_cut [18, 16] (fun q _ wx => q = .int .u64 (Q2 : Int) ∧ w = wx)
    case first =>
      go_wp2_with fail
      go_loop [18, 16] (fun x z => ∃ q r : Nat, x = .int .u64 q ∧ z = .int .u64 r ∧ q ≤ 4294967297 ∧ r < 4294967296 ∧ Q2 ≤ q ∧ Hid (V = q * v1 + r)) (fun x _ => (intOf x).toNat)
      case atStart => exact ⟨q9, r9, congrArg (Value.int .u64) HF2.out.1, congrArg (Value.int .u64) HF2.out.2, k2', by omega, k1', HG9⟩
      case round =>
        clear HG9 k1' k2'
        obtain ⟨q, r, rfl, rfl, hq, hr, hQ, HG⟩ := hrel
        obtain ⟨m1, m2, m3, k1, k2, k3, HM⟩ := test0 q v0 r dl hq hv0 hr hd0
        by_cases hT : 4294967296 ≤ q ∨ m3 < m1
        · -- the guess is too great
          have hdown : Q2 < q := by
            rcases hT with hT | hT
            · omega
            · have := HM.out
              rw [← HQ2.out]
              exact guess_down HG.out (by omega) (by omega)
          have n1 : IntKind.u64.wrap ((q : Int) - 1) = ((q - 1 : Nat) : Int) := by rw [IntKind.wrap_u64]; omega
          have b4 : 4294967296 ≤ q ∨ (q < 4294967296 ∧ m3 < m1) := by omega
          have HN : Hid (V = (q - 1) * v1 + (r + v1)) := by
            have := HG.out
            obtain ⟨k, rfl⟩ : ∃ k, q = k + 1 := ⟨q - 1, by omega⟩
            rw [Nat.add_mul] at this
            refine Lib.hid ?_
            rw [Nat.add_sub_cancel]; omega
          clear hT
          have n2 : IntKind.u64.wrap ((r : Int) + (v1 : Int)) = (r : Int) + (v1 : Int) := by rw [IntKind.wrap_u64]; omega
          by_cases hL : 4294967296 ≤ r + v1
          · have HL : Hid (Q2 = q - 1) := by
              refine Lib.hid (HQ2.out.symm.trans (guess_done HN.out ?_ (by omega) (by rw [HQ2.out]; omega)))
              have h6 := Nat.mul_le_mul (show q - 1 ≤ 4294967296 by omega) (show v0 ≤ 4294967295 by omega)
              omega
            have t3 : decide ((4294967296 : Int) ≤ (r : Int) + (v1 : Int)) = true := by simp; omega
            clear hL
            rcases b4 with b4 | ⟨b4, b5⟩
            · have t1 : decide ((4294967296 : Int) ≤ (q : Int)) = true := by simp; omega
              clear b4 hdown k3' hd1 hd0 hv1 hv1' hv0 hYb h2 h3 g3 hVb hq hr hQ
              go_wp2_with fail
              go_meet
              exact ⟨congrArg (Value.int .u64) (by rw [HL.out]), rfl⟩
            · have t1 : decide ((4294967296 : Int) ≤ (q : Int)) = false := by simp; omega
              have t2 : decide ((m3 : Int) < (m1 : Int)) = true := by simp; omega
              clear b4 hdown k3' hd1 hd0 hv1 hv1' hv0 hYb h2 h3 g3 hVb hq hr hQ
              go_wp2_with fail
              go_meet
              exact ⟨congrArg (Value.int .u64) (by rw [HL.out]), rfl⟩
          · have t3 : decide ((4294967296 : Int) ≤ (r : Int) + (v1 : Int)) = false := by simp; omega
            have HR : Hid (r + v1 < 4294967296 ∧ q - 1 ≤ 4294967297 ∧ Q2 ≤ q - 1 ∧ q - 1 < q) := Lib.hid ⟨by omega, by omega, by omega, by omega⟩
            clear hL
            rcases b4 with b4 | ⟨b4, b5⟩
            · have t1 : decide ((4294967296 : Int) ≤ (q : Int)) = true := by simp; omega
              clear b4 hdown k3' hd1 hd0 hv1 hv1' hv0 hYb h2 h3 g3 hVb hq hr hQ
              go_wp2_with fail
              go_round
              case rel => exact ⟨q - 1, r + v1, rfl, by go_num, HR.out.2.1, HR.out.1, HR.out.2.2.1, HN⟩
              case measure => have := HR.out; simp [intOf]; omega
            · have t1 : decide ((4294967296 : Int) ≤ (q : Int)) = false := by simp; omega
              have t2 : decide ((m3 : Int) < (m1 : Int)) = true := by simp; omega
              clear b4 hdown k3' hd1 hd0 hv1 hv1' hv0 hYb h2 h3 g3 hVb hq hr hQ
              go_wp2_with fail
              go_round
              case rel => exact ⟨q - 1, r + v1, rfl, by go_num, HR.out.2.1, HR.out.1, HR.out.2.2.1, HN⟩
              case measure => have := HR.out; simp [intOf]; omega
        · have t1 : decide ((4294967296 : Int) ≤ (q : Int)) = false := by simp; omega
          have t2 : decide ((m3 : Int) < (m1 : Int)) = false := by simp; omega
          have t2' : ¬ m3 < m1 := by omega
          have HL : Hid (Q2 = q) := by
            have := HM.out
            exact Lib.hid (HQ2.out.symm.trans (guess_done HG.out (by omega) (by omega) (by rw [HQ2.out]; exact hQ)))
          clear hT k3' hd1 hd0 hv1 hv1' hv0 hYb h2 h3 g3 hVb hq hr hQ
          go_wp2_with fail
          go_meet
          exact ⟨congrArg (Value.int .u64) (by rw [HL.out]), rfl⟩
    case rest =>
      obtain ⟨rfl, rfl⟩ := hcut
      obtain ⟨y1, y2, y3, R, m1, m2, m3, m4, hR⟩ := left0 V dl Y v1 v0 HH.out.1 hYb (by omega)
      rw [HQ2.out] at m3
      have HR := Lib.hid hR
      clear hR
      have hfin : R / 2 ^ s = (hi * 18446744073709551616 + lo) % y := by
        have h5 := HR.out
        have h6 := HV.out
        have h7 := HH.out
        rw [h6, two_digits, Nat.add_mul, Nat.mul_assoc, show 4294967296 * 4294967296 = 18446744073709551616 from rfl, Nat.add_assoc, ← h7.2.2.2, h7.2.2.1, h7.2.1] at h5
        rw [h5]
        exact shifted_mod _ _ _
      have HX := Lib.hid hfin
      clear hfin
      go_wp2_with fail
      go_ret2
      exact ⟨_, ret_qr rfl (by rw [← HX.out, Int.natCast_ediv, Int.natCast_pow]; rfl), rfl⟩
set_option maxHeartbeats 1000000 in
theorem Div64_small (lo y : Nat) (w : World) (h0 : 0 < y) (h2 : y < 18446744073709551616) (h3 : lo < 18446744073709551616) :
    Calls Tryd.prog 43 #[.int .u64 0, .int .u64 lo, .int .u64 y] w fun e w' => ∃ q : Int, e = .returned (.tuple #[.int .u64 q, .int .u64 ((lo % y : Nat) : Int)]) ∧ Dr w w' := by
  have d1 : ((y : Int) == 0) = false := by rw [beq_eq_false_iff_ne]; omega
  have d2 : decide ((y : Int) ≤ 0) = false := by simp; omega
  go_enter Tryd.func43, Tryd.ntmps43
  go_wp2_with fail
  go_quiet (fail)
  go_wp2_with fail
  go_ret2
  exact ⟨_, rfl, (Dr.refl w).drewN nq⟩
theorem Div64_any (hi lo y : Int) (w : World) (h0 : 0 ≤ hi) (h1 : hi < y) (h2 : y < 18446744073709551616) (h3 : 0 ≤ lo) (h4 : lo < 18446744073709551616) :
    Calls Tryd.prog 43 #[.int .u64 hi, .int .u64 lo, .int .u64 y] w fun e w' => ∃ q : Int, e = .returned (.tuple #[.int .u64 q, .int .u64 ((hi * 18446744073709551616 + lo) % y)]) ∧ Dr w w' := by
  obtain ⟨hi, rfl⟩ := Int.eq_ofNat_of_zero_le h0
  obtain ⟨lo, rfl⟩ := Int.eq_ofNat_of_zero_le h3
  obtain ⟨y, rfl⟩ := Int.eq_ofNat_of_zero_le (show 0 ≤ y by omega)
  rcases Nat.eq_zero_or_pos hi with rfl | hp
  · refine (Div64_small lo y w (by omega) (by omega) (by omega)).mono ?_
    rintro e w' ⟨q, rfl, hk⟩
    exact ⟨q, ret_qr rfl (by simp), hk⟩
  · refine (Div64_big hi lo y w hp (by omega) (by omega) (by omega)).mono ?_
    rintro e w' ⟨q, rfl, rfl⟩
    exact ⟨q, ret_qr rfl (by simp), Dr.refl _⟩
set_option maxHeartbeats 1000000 in
theorem Rem64_any (hi lo y : Int) (w : World) (h0 : 0 ≤ hi) (h1 : hi < 18446744073709551616) (hy : 0 < y) (h2 : y < 18446744073709551616) (h3 : 0 ≤ lo) (h4 : lo < 18446744073709551616) :
    Calls Tryd.prog 23 #[.int .u64 hi, .int .u64 lo, .int .u64 y] w fun e w' => e = .returned (.int .u64 ((hi * 18446744073709551616 + lo) % y)) ∧ Dr w w' := by
  have m1 := Int.emod_nonneg hi (show y ≠ 0 by omega)
  have m2 := Int.emod_lt_of_pos hi hy
  have M1 := Lib.hid (And.intro m1 m2)
  clear m1 m2
  go_enter Tryd.func23, Tryd.ntmps23
  go_wp2_with (go_at_call 43; (with_reducible refine (Div64_any _ _ _ _ M1.out.1 M1.out.2 (by omega) (by omega) (by omega)).mono ?_); rintro e w1 ⟨q, rfl, hk⟩)
  go_ret
  refine ⟨ret_u ?_, hk⟩
  rw [Int.add_emod, Int.mul_emod, Int.emod_emod_of_dvd _ (Int.dvd_refl y), ← Int.mul_emod, ← Int.add_emod]
end Go.Proofs.YtifbcaiegalhbaaDoor
