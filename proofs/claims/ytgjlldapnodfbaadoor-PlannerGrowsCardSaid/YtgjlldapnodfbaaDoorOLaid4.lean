/-
  What the planner's four listed error variables hold at the call's start.
-/
import Derived.Test.YtgjlldapnodfbaaDoorLaid
import Derived.Test.YtgjlldapnodfbaaDoorOFixed
namespace Go.Proofs.YtgjlldapnodfbaaDoor
open Go Go.RowKit Go.Fl

def msgs4 : List (String × List UInt8) := [
  ("timbre/api.ErrLimit", [116, 105, 109, 98, 114, 101, 58, 32, 108, 105, 109, 105, 116]),
  ("timbre/api.ErrRange", [116, 105, 109, 98, 114, 101, 58, 32, 114, 97, 110, 103, 101]),
  ("timbre/api.ErrLength", [116, 105, 109, 98, 114, 101, 58, 32, 108, 101, 110, 103, 116, 104]),
  ("timbre/api.ErrOrder", [116, 105, 109, 98, 114, 101, 58, 32, 111, 114, 100, 101, 114])]
theorem msgs4_type : (msgs4.all fun x => (Tryd.prog.globalNamed x.1).bind (fun g => (Tryd.prog.globals[g]?).map (·.type)) == some 30) = true := by kernel_rfl
theorem glob4_limit : Tryd.prog.globalNamed "timbre/api.ErrLimit" = some 3 := by kernel_rfl
theorem glob4_range : Tryd.prog.globalNamed "timbre/api.ErrRange" = some 0 := by kernel_rfl
theorem glob4_length : Tryd.prog.globalNamed "timbre/api.ErrLength" = some 1 := by kernel_rfl
theorem glob4_order : Tryd.prog.globalNamed "timbre/api.ErrOrder" = some 2 := by kernel_rfl
theorem er4_of_laid {W : World} (h : laidMetH Tryd.prog (msgs4.map fun x => (x.1, sentD x.2)) W) : ∃ aR aL aO aM, Er4 W aR aL aO aM := by
  have H := sents_of_laid msgs4 msgs4_type h
  obtain ⟨g0, a0, s0, hg0, hc0, _⟩ := H ("timbre/api.ErrLimit", [116, 105, 109, 98, 114, 101, 58, 32, 108, 105, 109, 105, 116]) (by simp [msgs4])
  obtain ⟨g1, a1, s1, hg1, hc1, _⟩ := H ("timbre/api.ErrRange", [116, 105, 109, 98, 114, 101, 58, 32, 114, 97, 110, 103, 101]) (by simp [msgs4])
  obtain ⟨g2, a2, s2, hg2, hc2, _⟩ := H ("timbre/api.ErrLength", [116, 105, 109, 98, 114, 101, 58, 32, 108, 101, 110, 103, 116, 104]) (by simp [msgs4])
  obtain ⟨g3, a3, s3, hg3, hc3, _⟩ := H ("timbre/api.ErrOrder", [116, 105, 109, 98, 114, 101, 58, 32, 111, 114, 100, 101, 114]) (by simp [msgs4])
  simp only [] at hg0 hg1 hg2 hg3
  rw [glob4_limit] at hg0
  obtain rfl := Option.some.inj hg0
  rw [glob4_range] at hg1
  obtain rfl := Option.some.inj hg1
  rw [glob4_length] at hg2
  obtain rfl := Option.some.inj hg2
  rw [glob4_order] at hg3
  obtain rfl := Option.some.inj hg3
  exact ⟨a1, a2, a3, a0, ⟨hc1, hc2, hc3, hc0⟩⟩
end Go.Proofs.YtgjlldapnodfbaaDoor
