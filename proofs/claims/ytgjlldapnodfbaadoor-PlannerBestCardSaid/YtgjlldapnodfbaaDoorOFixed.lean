/-
  The calls of the planner that the document fixes.
-/
import Derived.Test.YtgjlldapnodfbaaDoorOText
namespace Go.Proofs.YtgjlldapnodfbaaDoor
open Go Go.RowKit Go.Fl Go.Ord Go.Pr Go.Maps

theorem best12 : best usual 12 = some (t34, 148) := by kernel_rfl
theorem cost34 : t34.cost = (148, 0) := by kernel_rfl
theorem usual_ok : usual.ok = true := by decide +kernel
/-- The four errors of the planner. -/
structure Er4 (w : World) (aR aL aO aM : Addr) : Prop where
  r : errAt w 0 aR
  l : errAt w 1 aL
  o : errAt w 2 aO
  m : errAt w 3 aM
theorem Er4.kp {w w' : World} {aR aL aO aM : Addr} (h : Er4 w aR aL aO aM) (k : Kp w w') : Er4 w' aR aL aO aM := ⟨k.later h.r, k.later h.l, k.later h.o, k.later h.m⟩
def none0 : Pol := ⟨0, [], 0⟩
theorem none0_in (w : World) : FlIn w (.slice none 0 0) none0.fl := ⟨none, 0, rfl, fun h => absurd h (by decide)⟩
set_option maxRecDepth 100000 in
set_option maxHeartbeats 4000000 in
theorem ofixed_any (aR aL aO aM : Addr) (w : World) (hE : Er4 w aR aL aO aM) : Calls Tryd.prog 8 #[] w fun e w' => e = .returned (.bool true) ∧ Kp w w' := by
  have HU : Hid (∀ w', Kp w w' → Calls Tryd.prog 16 #[] w' fun e w'' => ∃ g c, e = .returned (.agg #[.int .i64 16, .slice (some ⟨g, 0, none⟩) 4 c, .int .i64 13]) ∧ Hid (FlIn w'' (.slice (some ⟨g, 0, none⟩) 4 c) usual.fl) ∧ Kp w' w'') := Lib.hid fun w' k => by
    refine (Usual_any w').mono ?_
    rintro e w'' ⟨g, c, rfl, h1, h2, h3⟩
    exact ⟨g, c, rfl, Lib.hid h2, h3⟩
  have HCh : Hid (∀ w' v, Kp w w' → FlIn w' v usual.fl → Calls Tryd.prog 9 #[.int .i64 12, .agg #[.int .i64 16, v, .int .i64 13]] w' fun e w'' => ∃ k n o m c, e = .returned (.tuple #[.agg #[.int .i64 k, .int .i64 n, .slice o m c], .nilIface]) ∧ Hid (OIn w'' t34 (.agg #[.int .i64 k, .int .i64 n, .slice o m c])) ∧ Kp w' w'') := Lib.hid fun w' v k hv => by
    refine (Choose_good 12 usual v aR w' (by decide) (by decide) hv usual_ok (k.later hE.r)).mono ?_
    rintro e w'' ⟨k, n, o, m, c, rfl, h1, h2⟩
    rw [best12] at h1
    exact ⟨k, n, o, m, c, rfl, Lib.hid (OX.oin h1), h2⟩
  have HT : Hid (∀ w' v, OIn w' t34 v → Calls Tryd.prog 29 #[v] w' fun e w'' => e = .returned (.tuple #[.string ⟨#[40, 102, 51, 32, 120, 32, 102, 52, 41]⟩, .int .i64 0]) ∧ Kp w' w'') := Lib.hid fun w' v h => Text34 v w' h
  have HCo : Hid (∀ w' v, Kp w w' → OIn w' t34 v → Calls Tryd.prog 18 #[v] w' fun e w'' => e = .returned (.tuple #[.int .i64 148, .nilIface]) ∧ Kp w' w'') := Lib.hid fun w' v k h => by
    have := pCost_any t34 v aO aM w' h (k.later hE.o) (k.later hE.m)
    rw [cost34, errNo0] at this
    exact this
  have HCk : Hid (∀ w' v, Kp w w' → FlIn w' v usual.fl → Calls Tryd.prog 14 #[.agg #[.int .i64 16, v, .int .i64 13]] w' fun e w'' => e = .returned .nilIface ∧ Kp w' w'') := Lib.hid fun w' v k hv => by
    have h := pCheck_any usual v aR w' hv (k.later hE.r)
    unfold chk at h
    rw [if_pos usual_ok] at h
    exact h
  have HC0 : Hid (∀ w', Kp w w' → Calls Tryd.prog 14 #[.agg #[.int .i64 0, .slice none 0 0, .int .i64 0]] w' fun e w'' => e = .returned (.iface 114 (.pointer (some aR))) ∧ Kp w' w'') := Lib.hid fun w' k => by
    have h := pCheck_any none0 (.slice none 0 0) aR w' (none0_in w') (k.later hE.r)
    exact h
  have hn := nil_eq_nil
  have hs : ∀ w, (binOp .eql 30 (.iface 114 (.pointer (some aR))) (.iface 114 (.pointer (some aR)))).run Tryd.prog w = .ok (.bool true) w := fun w => eq_same w aR
  have HR := Lib.hid hE.r
  clear hE
  go_enter Tryd.func8, Tryd.ntmps8
  go_upto_region 6 with (first
    | (go_at_call 16; (with_reducible refine (HU.out _ (Kp.refl _)).mono ?_); rintro e w1 ⟨g, c, rfl, hv, hk1⟩)
    | (go_at_call 9; (with_reducible refine (HCh.out _ _ hk1 hv.out).mono ?_); rintro e w2 ⟨k, n, o, m, c2, rfl, ho, hk2⟩; have hA := heap_alloc_new w2 (.cells #[.int .i64 k, .int .i64 n, .slice o m c2] 28); have k3 := (Kp.refl w2).alloc (.cells #[.int .i64 k, .int .i64 n, .slice o m c2] 28))
    | (go_at_call 29; (with_reducible refine (HT.out _ _ (ho.out.kp k3)).mono ?_); rintro e w4 ⟨rfl, hk4⟩; obtain ⟨⟨b0, b1, b2⟩, _⟩ := row3_facts ((hk4.block _ (Array.getElem?_eq_some_iff.1 hA).1).trans hA))
    | (go_at_call 18; (with_reducible refine (HCo.out _ _ (((hk1.trans hk2).trans k3).trans hk4) ((ho.out.kp k3).kp hk4)).mono ?_); rintro e w5 ⟨rfl, hk5⟩))
  have hkw := (((hk1.trans hk2).trans k3).trans hk4).trans hk5
  have HKw := Lib.hid hkw
  have hrr : Hid (∀ w', Kp w5 w' → w'.cell? ⟨0, 0, none⟩ = some (.iface 114 (.pointer (some aR)))) := Lib.hid fun w' k => (hkw.trans k).later HR.out
  have hr5 := hrr.out _ (Kp.refl _)
  have kd : Kp w5 w5.drew := (Kp.refl w5).drew
  clear b0 b1 b2 hA k3 hk4 hk5 hk1 hk2 ho hv hkw
  go_region_held3 (fun w' => w'.cell? ⟨0, 0, none⟩ = some (.iface 114 (.pointer (some aR)))) (first | go_keep | exact hrr.out _ (kd.trans hk6) | exact hrr.out _ ((kd.trans hk6).trans hk7) | exact hrr.out _ (((kd.trans hk6).trans hk7).trans hk8)) (first
    | (go_at_call 16; (with_reducible refine (HU.out _ (HKw.out.trans kd)).mono ?_); rintro e w6 ⟨g6, c6, rfl, hv6, hk6⟩)
    | (go_at_call 14; (with_reducible refine (HCk.out _ _ ((HKw.out.trans kd).trans hk6) hv6.out).mono ?_); rintro e w7 ⟨rfl, hk7⟩)
    | (go_at_call 14; (with_reducible refine (HC0.out _ (((HKw.out.trans kd).trans hk6).trans hk7)).mono ?_); rintro e w8 ⟨rfl, hk8⟩))
  go_wp2_with fail
  go_ret
  exact ⟨rfl, HKw.out.trans (((kd.trans hk6).trans hk7).trans hk8)⟩
end Go.Proofs.YtgjlldapnodfbaaDoor
