/- Part of the proof of vistalaw15.CallNews: a step by step evaluation of its body. -/
import Derived.Test.YtloflflapneheaaGreatDoorGhZ2a
import Derived.Test.YtloflflapneheaaGreatDoorGhZ2b
import Derived.Test.YtloflflapneheaaGreatDoorGhZ2c
import Derived.Test.YtloflflapneheaaGreatDoorGhZ2d
import Derived.Test.YtloflflapneheaaGreatDoorGhZ2e
import Derived.Test.YtloflflapneheaaGreatDoorGhZ2f
set_option linter.unusedSectionVars false
set_option linter.unusedVariables false
set_option linter.unusedSimpArgs false
