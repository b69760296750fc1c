/- What awake() of law 34 comes to: true, in every world; by the evaluator. -/
import Derived.Test.YtbnnikpgopjieaaGreatDoorChecked
import Derived.Test.YtbnnikpgopjieaaGreatDoorTcM
import Derived.KernelRfl
namespace Go.Proofs.YtbnnikpgopjieaaGreatDoor.Aw
open Go.Tc
noncomputable def exts : List (Nat × AExt) := [(172, .noEscape), (218, .makeNoZero), (240, .f64bits), (241, .f64frombits), (279, .indexByte), (374, .count), (395, .indexByte)]
noncomputable def tab : Tab := tabOf Tryz.prog exts
theorem names : Tryz.prog.funcs.toList.all (fun fn => !(fn.name == "runtime.NumGoroutine")) = true := by kernel_rfl
theorem tab_ok : TabOk Tryz.prog tab := by
  refine tabOf_ok Tryz.checked.mixed names ?_
  intro x hx
  simp only [exts, List.mem_cons, List.mem_nil_iff, or_false] at hx
  rcases hx with rfl | rfl | rfl | rfl | rfl | rfl | rfl
  · exact ⟨Tryz.f172, by kernel_rfl, by kernel_rfl, by kernel_rfl, by kernel_rfl⟩
  · exact ⟨Tryz.f218, by kernel_rfl, by kernel_rfl, by kernel_rfl, by kernel_rfl⟩
  · exact ⟨Tryz.f240, by kernel_rfl, by kernel_rfl, by kernel_rfl, by kernel_rfl⟩
  · exact ⟨Tryz.f241, by kernel_rfl, by kernel_rfl, by kernel_rfl, by kernel_rfl⟩
  · exact ⟨Tryz.f279, by kernel_rfl, by kernel_rfl, by kernel_rfl, by kernel_rfl⟩
  · exact ⟨Tryz.f374, by kernel_rfl, by kernel_rfl, by kernel_rfl, by kernel_rfl⟩
  · exact ⟨Tryz.f395, by kernel_rfl, by kernel_rfl, by kernel_rfl, by kernel_rfl⟩
theorem awake_run : saysTrue ((evK Tryz.prog tab 3000).call 5 [] emptyMem) = true := by kernel_rfl
theorem awake_calls (w : World) : Calls Tryz.prog 5 #[] w fun e w' => e = .returned (.bool true) ∧ Go.RowKit.Below w.heap.size w w' := calls_true tab_ok 3000 5 awake_run w
end Go.Proofs.YtbnnikpgopjieaaGreatDoor.Aw
