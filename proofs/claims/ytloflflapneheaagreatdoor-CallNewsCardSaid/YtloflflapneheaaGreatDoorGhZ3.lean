/- Part of the proof of vistalaw15.CallNews: a step by step evaluation of its body. -/
import Derived.Test.YtloflflapneheaaGreatDoorGhZ1
set_option linter.unusedSectionVars false
set_option linter.unusedVariables false
set_option linter.unusedSimpArgs false
namespace Go.Gh
open Go.Proofs
/-- 'awake' answers true -/
theorem wake [Sym] : callIs lib0 3000 5 [] K3 = ((Value.bool true = Value.bool true) ∧ (Value.bool true = Value.bool true)) := by kernel_rfl
theorem named : (Tryz.prog.funcs.toList.all fun fn => fn.body.isNone || !(fn.name == "runtime.NumGoroutine")) = true := by kernel_rfl
end Go.Gh
