/-
  The errors of package api: nineteen variables, each holding a pointer of its own; timbrenum.list and timbrenum.Num.
-/
import Derived.Test.YtgjlldapnodfbaaDoorW
import Derived.Test.YtgjlldapnodfbaaDoorProg
import Derived.LaidEql
namespace Go.Proofs.YtgjlldapnodfbaaDoor
open Go Go.RowKit Go.Fl

/-- What an error variable holds. -/
abbrev errAt (w : World) (g : Nat) (a : Addr) : Prop := w.cell? ⟨g, 0, none⟩ = some (.iface 114 (.pointer (some a)))

/-- Where the error of number i + 1 lies. -/
def glob (i : Nat) : Nat := [4, 5, 3, 6, 0, 7, 1, 2, 8, 9, 10, 11, 12, 13, 14, 15, 16, 17, 18].getD i 0
def errV (a : Addr) : Value := .iface 114 (.pointer (some a))
structure Errs (w : World) (E : Nat → Addr) : Prop where
  cell : ∀ i, i < 19 → w.cell? ⟨glob i, 0, none⟩ = some (errV (E i))
  diff : ∀ i j, i < 19 → j < 19 → i ≠ j → E i ≠ E j
  back : ∀ i, i < 19 → ∃ c t, w.heap[(E i).block]? = some (.cells c t (0, 0))

theorem Errs.kp {w w' : World} {E : Nat → Addr} (h : Errs w E) (k : Kp w w') : Errs w' E := by
  refine ⟨fun i hi => k.later (h.cell i hi), h.diff, fun i hi => ?_⟩
  obtain ⟨c, t, hb⟩ := h.back i hi
  refine ⟨c, t, ?_⟩
  rw [k.block _ ?_]
  · exact hb
  · rcases Nat.lt_or_ge (E i).block w.heap.size with h' | h'
    · exact h'
    · simp [Array.getElem?_eq_none h'] at hb
theorem Errs.drewN {w : World} {E : Nat → Addr} (h : Errs w E) (n : Nat) : Errs (w.drewN n) E := h.kp ((Kp.refl w).drewN n)

theorem comp_err : (Tryd.prog.info? 114).map (·.comparable) = some true := by kernel_rfl
theorem size_err : (Tryd.prog.info? 132).map (·.size) = some 1 := by kernel_rfl
theorem eq_same (w : World) (a : Addr) : (binOp .eql 30 (errV a) (errV a)).run Tryd.prog w = .ok (.bool true) w := by
  obtain ⟨i, hi, hcmp⟩ := Option.map_eq_some_iff.1 comp_err
  obtain ⟨j, hj, _⟩ := Option.map_eq_some_iff.1 size_err
  exact run_eql_iface_ptr_same w a Tryd.underlying30 Tryd.underlying114 hi hcmp hj
theorem Errs.eq_other {w : World} {E : Nat → Addr} (h : Errs w E) (i j : Nat) (hi : i < 19) (hj : j < 19) (hne : i ≠ j) : (binOp .eql 30 (errV (E i)) (errV (E j))).run Tryd.prog w = .ok (.bool false) w := by
  obtain ⟨ii, hii, hcmp⟩ := Option.map_eq_some_iff.1 comp_err
  obtain ⟨jj, hjj, hsz⟩ := Option.map_eq_some_iff.1 size_err
  obtain ⟨_, _, ba⟩ := h.back i hi
  obtain ⟨_, _, bb⟩ := h.back j hj
  exact run_eql_iface_ptr_other w Tryd.underlying30 Tryd.underlying114 hii hcmp hjj (by rw [hsz]; decide) (h.diff i j hi hj hne) ba bb

def errRow (E : Nat → Addr) : Array Value := #[errV (E 0), errV (E 1), errV (E 2), errV (E 3), errV (E 4), errV (E 5), errV (E 6), errV (E 7), errV (E 8), errV (E 9), errV (E 10), errV (E 11), errV (E 12), errV (E 13), errV (E 14), errV (E 15), errV (E 16), errV (E 17), errV (E 18)]

theorem row_size : (Tryd.prog.info? 73).map (·.size) = some 19 := by kernel_rfl
theorem errRow_one (E : Nat → Addr) : (errRow E).all (fun x => x.oneCell') = true := by simp [errRow, errV, Value.oneCell']
set_option maxRecDepth 100000 in
set_option maxHeartbeats 400000 in
theorem list_any (E : Nat → Addr) (w : World) (hE : Errs w E) :
    Calls Tryd.prog 33 #[] w fun e w' => e = .returned (.agg (errRow E)) ∧ Kp w w' := by
  have c0 := hE.cell 0 (by decide)
  have c1 := hE.cell 1 (by decide)
  have c2 := hE.cell 2 (by decide)
  have c3 := hE.cell 3 (by decide)
  have c4 := hE.cell 4 (by decide)
  have c5 := hE.cell 5 (by decide)
  have c6 := hE.cell 6 (by decide)
  have c7 := hE.cell 7 (by decide)
  have c8 := hE.cell 8 (by decide)
  have c9 := hE.cell 9 (by decide)
  have c10 := hE.cell 10 (by decide)
  have c11 := hE.cell 11 (by decide)
  have c12 := hE.cell 12 (by decide)
  have c13 := hE.cell 13 (by decide)
  have c14 := hE.cell 14 (by decide)
  have c15 := hE.cell 15 (by decide)
  have c16 := hE.cell 16 (by decide)
  have c17 := hE.cell 17 (by decide)
  have c18 := hE.cell 18 (by decide)
  simp only [glob, errV, List.getD_cons_zero, List.getD_cons_succ] at c0 c1 c2 c3 c4 c5 c6 c7 c8 c9 c10 c11 c12 c13 c14 c15 c16 c17 c18
  have z0 := World.block_lt_of_cell? _ _ c0
  have z1 := World.block_lt_of_cell? _ _ c1
  have z2 := World.block_lt_of_cell? _ _ c2
  have z3 := World.block_lt_of_cell? _ _ c3
  have z4 := World.block_lt_of_cell? _ _ c4
  have z5 := World.block_lt_of_cell? _ _ c5
  have z6 := World.block_lt_of_cell? _ _ c6
  have z7 := World.block_lt_of_cell? _ _ c7
  have z8 := World.block_lt_of_cell? _ _ c8
  have z9 := World.block_lt_of_cell? _ _ c9
  have z10 := World.block_lt_of_cell? _ _ c10
  have z11 := World.block_lt_of_cell? _ _ c11
  have z12 := World.block_lt_of_cell? _ _ c12
  have z13 := World.block_lt_of_cell? _ _ c13
  have z14 := World.block_lt_of_cell? _ _ c14
  have z15 := World.block_lt_of_cell? _ _ c15
  have z16 := World.block_lt_of_cell? _ _ c16
  have z17 := World.block_lt_of_cell? _ _ c17
  have z18 := World.block_lt_of_cell? _ _ c18
  simp only [] at z0 z1 z2 z3 z4 z5 z6 z7 z8 z9 z10 z11 z12 z13 z14 z15 z16 z17 z18
  go_enter Tryd.func33, Tryd.ntmps33
  go_wp2_with ((with_reducible show wpList _ _ _ (⟨_, .store _ _ _, _, _, _, _⟩ :: _) _ _); (refine wpList_store_row rfl 73 (.tmp 0) (.tmp 20) rfl w.heap.size (errRow E) rfl rfl 73 _ (heap_alloc_new w _) row_size rfl (errRow_one E) ?_))
  refine bodyPost_ret (v := .agg (errRow E)) (results_cell_row (p := 0) (ty := 73) rfl _ _ w.heap.size 73 (errRow E) (0, 0) _ rfl (setRow_heap _ _ _ _ _ _ (heap_alloc_new w _)) Tryd.underlying73 rfl row_size) rfl ⟨rfl, ?_⟩
  exact ((Kp.refl w).alloc _).setRow (Nat.le_refl _) _

set_option maxRecDepth 100000 in
theorem idx_row (E : Nat → Addr) (j : Nat) (hj : j < 19) (w : World) : (Instr.index 73 (.agg (errRow E)) (.int .i64 (j : Int))).run Tryd.prog w = .ok (.iface 114 (.pointer (some (E j)))) w := by
  have h : j = 0 ∨ j = 1 ∨ j = 2 ∨ j = 3 ∨ j = 4 ∨ j = 5 ∨ j = 6 ∨ j = 7 ∨ j = 8 ∨ j = 9 ∨ j = 10 ∨ j = 11 ∨ j = 12 ∨ j = 13 ∨ j = 14 ∨ j = 15 ∨ j = 16 ∨ j = 17 ∨ j = 18 := by omega
  rcases h with rfl | rfl | rfl | rfl | rfl | rfl | rfl | rfl | rfl | rfl | rfl | rfl | rfl | rfl | rfl | rfl | rfl | rfl | rfl <;> exact rfl
theorem err_eq_nil (a : Addr) (w : World) : (binOp .eql 30 (.iface 114 (.pointer (some a))) .nilIface).run Tryd.prog w = .ok (.bool false) w := by kernel_rfl
theorem nil_eq_nil (w : World) : (binOp .eql 30 .nilIface .nilIface).run Tryd.prog w = .ok (.bool true) w := by kernel_rfl

set_option maxRecDepth 100000 in
set_option maxHeartbeats 400000 in
theorem Num_nil (w : World) :
    Calls Tryd.prog 11 #[.nilIface] w fun e w' => e = .returned (.int .i64 0) ∧ w = w' := by
  go_enter Tryd.func11, Tryd.ntmps11
  go_wp2_with fail
  go_ret
  exact ⟨rfl, rfl⟩

set_option maxRecDepth 100000 in
set_option maxHeartbeats 400000 in
theorem Num_err (E : Nat → Addr) (i : Nat) (hi : i < 19) (w : World) (hE : Errs w E) :
    Calls Tryd.prog 11 #[.iface 114 (.pointer (some (E i)))] w fun e w' => e = .returned (.int .i64 (i + 1)) ∧ Kp w w' := by
  have hnn := err_eq_nil (E i)
  go_enter Tryd.func11, Tryd.ntmps11
  go_wp2_with (go_at_call 33; (with_reducible refine (list_any E _ hE).mono ?_); rintro e w1 ⟨rfl, hk⟩)
  have hE1 := hE.kp hk
  clear hE
  go_loop [3, 4, 8] (fun _ _ c => ∃ j : Nat, j ≤ i ∧ c = .int .i64 j) (fun _ _ c => 19 - (intOf c).toNat)
  case atStart => exact ⟨0, by omega, rfl⟩
  case round =>
    obtain ⟨j, hj, rfl⟩ := hrel
    have hx := idx_row E j (by omega)
    by_cases hlt : j < i
    · have hq : (binOp .eql 30 (.iface 114 (.pointer (some (E i)))) (.iface 114 (.pointer (some (E j))))).run Tryd.prog w1 = .ok (.bool false) w1 := hE1.eq_other i j hi (by omega) (by omega)
      clear hE1
      go_wp2_with fail
      go_round
      case rel => exact ⟨j + 1, by omega, by go_num⟩
      case measure => simp [intOf]; omega
    · obtain rfl : j = i := by omega
      have hq : (binOp .eql 30 (.iface 114 (.pointer (some (E j)))) (.iface 114 (.pointer (some (E j))))).run Tryd.prog w1 = .ok (.bool true) w1 := eq_same w1 (E j)
      clear hE1
      go_wp2_with fail
      go_ret
      exact ⟨rfl, hk⟩
theorem Num_len (E : Nat → Addr) (w : World) (hE : Errs w E) :
    Calls Tryd.prog 11 #[.iface 114 (.pointer (some (E 6)))] w fun e w' => e = .returned (.int .i64 7) ∧ Kp w w' := Num_err E 6 (by decide) w hE
theorem Num_range (E : Nat → Addr) (w : World) (hE : Errs w E) :
    Calls Tryd.prog 11 #[.iface 114 (.pointer (some (E 4)))] w fun e w' => e = .returned (.int .i64 5) ∧ Kp w w' := Num_err E 4 (by decide) w hE
theorem Errs.len {w : World} {E : Nat → Addr} (hE : Errs w E) : errAt w 1 (E 6) := hE.cell 6 (by decide)
theorem Errs.range {w : World} {E : Nat → Addr} (hE : Errs w E) : errAt w 0 (E 4) := hE.cell 4 (by decide)
end Go.Proofs.YtgjlldapnodfbaaDoor
