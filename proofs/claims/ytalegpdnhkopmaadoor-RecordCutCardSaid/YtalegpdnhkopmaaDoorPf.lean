/- Of this program. -/
import Derived.Test.YtalegpdnhkopmaaDoorProg
import Derived.Test.YtalegpdnhkopmaaDoorVB
namespace Go.Proofs.YtalegpdnhkopmaaDoor.VC
open Go Go.V
theorem ngAll : (Go.Proofs.Tryd.prog.funcs.toList.all fun fn => !(fn.name == "runtime.NumGoroutine")) = true := by kernel_rfl
theorem pf : PF Go.Proofs.Tryd.prog := ⟨fun f fn h => by
  have := List.all_eq_true.1 ngAll fn (Array.mem_def.1 (Array.mem_of_getElem? h))
  simpa using this, by kernel_rfl⟩
end Go.Proofs.YtalegpdnhkopmaaDoor.VC
