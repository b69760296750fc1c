/- The tables of this program, for the evaluator. -/
import Derived.Test.YtmeemfdpfdcghaaGreatDoorChecked
import Derived.Test.YtmeemfdpfdcghaaGreatDoorTcM
import Derived.KernelRfl
namespace Go.Proofs.YtmeemfdpfdcghaaGreatDoor.Aw
open Go.Tc
noncomputable def exts : List (Nat × AExt) := [(173, .noEscape), (253, .makeNoZero), (174, .f64bits), (175, .f64frombits), (212, .indexByte), (271, .count), (296, .indexByte)]
noncomputable def tab : Tab := tabOf Tryz.prog exts
theorem names : Tryz.prog.funcs.toList.all (fun fn => !(fn.name == "runtime.NumGoroutine")) = true := by kernel_rfl
theorem tab_ok : TabOk Tryz.prog tab := by
  refine tabOf_ok Tryz.checked.mixed names ?_
  intro x hx
  simp only [exts, List.mem_cons, List.mem_nil_iff, or_false] at hx
  rcases hx with rfl | rfl | rfl | rfl | rfl | rfl | rfl
  · exact ⟨Tryz.f173, by kernel_rfl, by kernel_rfl, by kernel_rfl, by kernel_rfl⟩
  · exact ⟨Tryz.f253, by kernel_rfl, by kernel_rfl, by kernel_rfl, by kernel_rfl⟩
  · exact ⟨Tryz.f174, by kernel_rfl, by kernel_rfl, by kernel_rfl, by kernel_rfl⟩
  · exact ⟨Tryz.f175, by kernel_rfl, by kernel_rfl, by kernel_rfl, by kernel_rfl⟩
  · exact ⟨Tryz.f212, by kernel_rfl, by kernel_rfl, by kernel_rfl, by kernel_rfl⟩
  · exact ⟨Tryz.f271, by kernel_rfl, by kernel_rfl, by kernel_rfl, by kernel_rfl⟩
  · exact ⟨Tryz.f296, by kernel_rfl, by kernel_rfl, by kernel_rfl, by kernel_rfl⟩
end Go.Proofs.YtmeemfdpfdcghaaGreatDoor.Aw
