/-
  What two listed error variables hold at the call's start.
-/
import Derived.Test.YtifbcaiegalhbaaDoorLaid
import Derived.Test.YtifbcaiegalhbaaDoorPInv
namespace Go.Proofs.YtifbcaiegalhbaaDoor
open Go Go.RowKit Go.Fl

def msgs2 : List (String × List UInt8) := [
  ("timbre/api.ErrRange", [116, 105, 109, 98, 114, 101, 58, 32, 114, 97, 110, 103, 101]),
  ("timbre/api.ErrRoot", [116, 105, 109, 98, 114, 101, 58, 32, 114, 111, 111, 116])]
theorem msgs2_type : (msgs2.all fun x => (Tryd.prog.globalNamed x.1).bind (fun g => (Tryd.prog.globals[g]?).map (·.type)) == some 25) = true := by kernel_rfl
theorem glob_range : Tryd.prog.globalNamed "timbre/api.ErrRange" = some 1 := by kernel_rfl
theorem glob_root : Tryd.prog.globalNamed "timbre/api.ErrRoot" = some 0 := by kernel_rfl
theorem two_of_laid {W : World} (h : laidMetH Tryd.prog (msgs2.map fun x => (x.1, sentD x.2)) W) : ∃ E, Ers W E := by
  have H := sents_of_laid msgs2 msgs2_type h
  obtain ⟨g, a, s, hg, hc, _⟩ := H ("timbre/api.ErrRange", [116, 105, 109, 98, 114, 101, 58, 32, 114, 97, 110, 103, 101]) (by simp [msgs2])
  obtain ⟨g2, a2, s2, hg2, hc2, _⟩ := H ("timbre/api.ErrRoot", [116, 105, 109, 98, 114, 101, 58, 32, 114, 111, 111, 116]) (by simp [msgs2])
  simp only [] at hg hg2
  rw [glob_range] at hg
  rw [glob_root] at hg2
  obtain rfl := Option.some.inj hg
  obtain rfl := Option.some.inj hg2
  exact ⟨fun i => if i = 10 then a2 else a, hc2, hc⟩
end Go.Proofs.YtifbcaiegalhbaaDoor
