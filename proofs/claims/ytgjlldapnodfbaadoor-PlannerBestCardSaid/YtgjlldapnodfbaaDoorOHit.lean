/-
  cheapest where the length is known already.
-/
import Derived.Test.YtgjlldapnodfbaaDoorOMemo
namespace Go.Proofs.YtgjlldapnodfbaaDoor
open Go Go.RowKit Go.Fl Go.Ord Go.Pr

theorem size_priced : (Tryd.prog.info? 65).map (·.size) = some 4 := by kernel_rfl
theorem ret_priced {fn : Func} {p : Tmp} (h : fn.results = #[.cell p 65]) (tmps : Array Value) (w : World) (g : Nat) (a b c d : Value) (t : TypeId) (fr : Nat × Nat)
    (hp : tmps.getD p undef = .pointer (some ⟨g, 0, none⟩)) (hg : w.heap[g]? = some (.cells #[a, b, c, d] t fr)) : (results fn tmps).run Tryd.prog w = .ok (.agg #[a, b, c, d]) w :=
  results_cell_row h tmps w g t #[a, b, c, d] fr _ hp hg Tryd.underlying65 rfl size_priced
set_option maxRecDepth 100000 in
set_option maxHeartbeats 2000000 in
theorem cheap_hit (p : Pol) (bc bm nn : Nat) (vf : Value) (n : Nat) (f : Nat → Option Value) (k n0 : Int) (o : Option Addr) (m c : Nat) (cost : Int) (w : World) (hn : n ≤ 1000000)
    (hc : CH w bc p vf bm) (hM : MP w bm nn f) (hf : f n = some (.agg #[.int .i64 k, .int .i64 n0, .slice o m c, .int .i64 cost])) :
    Calls Tryd.prog 31 #[.pointer (some ⟨bc, 0, none⟩), .int .i64 n] w fun e w' => e = .returned (.agg #[.int .i64 k, .int .i64 n0, .slice o m c, .int .i64 cost]) ∧ Kp w w' := by
  have q3 := cell_of_row w bc 3 _ _ _ hc
  have HL : Hid (∀ w', Kp w w' → (Instr.lookup 84 (.map (some bm)) (.int .i64 (n : Int)) true).run Tryd.prog w' = .ok (.tuple #[.agg #[.int .i64 k, .int .i64 n0, .slice o m c, .int .i64 cost], .bool true]) w') := Lib.hid fun w' hk => by
    have := (hM.kp hk).look n hn
    rw [hf] at this
    exact this
  go_enter Tryd.func31, Tryd.ntmps31
  go_upto_region 1 with fail
  have hk3 := (((Kp.refl w).alloc (.cells #[.pointer (some ⟨bc, 0, none⟩)] 66)).alloc (.cells #[.int .i64 (n : Int)] 3)).alloc (.cells #[.int .i64 0, .int .i64 0, .slice none 0 0, .int .i64 0] 65)
  have hk4 := hk3.alloc (.cells #[.int .i64 0, .int .i64 0, .slice none 0 0, .int .i64 0] 65)
  have hl := HL.out _ hk3.drew
  have hl4 := HL.out _ hk4.drew
  have q33 := hk3.drew.later q3
  have q34 := hk4.drew.later q3
  go_region
  all_goals clear hl hl4 q33 q34 hk3 hk4
  all_goals go_wp2_with fail
  all_goals
    refine bodyPost_ret (ret_priced rfl _ _ (w.heap.size + 1 + 1) (.int .i64 k) (.int .i64 n0) (.slice o m c) (.int .i64 cost) 65 (0, 0) rfl ?_) rfl ⟨rfl, Kp.drew (Kp.alloc (Kp.alloc (Kp.alloc (Kp.alloc (Kp.refl w) _) _) _) _)⟩
    have e := heap_alloc2_old ((w.alloc (.cells #[.pointer (some ⟨bc, 0, none⟩)] 66)).alloc (.cells #[.int .i64 (n : Int)] 3)) (.cells #[.int .i64 k, .int .i64 n0, .slice o m c, .int .i64 cost] 65) (.cells #[.int .i64 k, .int .i64 n0, .slice o m c, .int .i64 cost] 65)
    rw [World.size_alloc, World.size_alloc] at e
    exact e
end Go.Proofs.YtgjlldapnodfbaaDoor
