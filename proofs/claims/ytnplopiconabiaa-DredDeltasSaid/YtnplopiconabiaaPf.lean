/- Of this program. -/
import Derived.Test.YtnplopiconabiaaProg
import Derived.Test.YtnplopiconabiaaVB
namespace Go.Proofs.Ytnplopiconabiaa.VC
open Go Go.V
theorem ngAll : (Go.Proofs.Try.prog.funcs.toList.all fun fn => !(fn.name == "runtime.NumGoroutine")) = true := by kernel_rfl
theorem pf : PF Go.Proofs.Try.prog := ⟨fun f fn h => by
  have := List.all_eq_true.1 ngAll fn (Array.mem_def.1 (Array.mem_of_getElem? h))
  simpa using this, by kernel_rfl⟩
end Go.Proofs.Ytnplopiconabiaa.VC
