/- Part of the proof of vistalaw15.CallNews: a step by step evaluation of its body. -/
import Derived.Test.YtloflflapneheaaGreatDoorGhZ1
set_option linter.unusedSectionVars false
set_option linter.unusedVariables false
set_option linter.unusedSimpArgs false
namespace Go.Gh
set_option maxRecDepth 100000
theorem n4_c1_lo (c2 c3 c4 c5 c6 c7 c8 : Cl) (b : Bool) (x : Nat → Int) (hc) (hb) : @callIs (S0 .ok .lo c2 c3 c4 c5 c6 c7 c8 b x hc hb) I1 200 4 args0 K4 = ((.tuple #[.pointer none, .int .i64 1] : Value) = .tuple #[.pointer none, .int .i64 1]) := by kernel_rfl
theorem n4_c3_lo (c4 c5 c6 c7 : Cl) (b : Bool) (x : Nat → Int) (hc) (hb) : @callIs (S0 .ok .ok .ok .lo c4 c5 c6 c7 .ok b x hc hb) I1 200 4 args0 K4 = ((.tuple #[.pointer none, .int .i64 1] : Value) = .tuple #[.pointer none, .int .i64 1]) := by kernel_rfl
theorem n4_c6_lo (c7 : Cl) (b : Bool) (x : Nat → Int) (hc) (hb) : @callIs (S0 .ok .ok .ok .ok .ok .ok .lo c7 .ok b x hc hb) I1 200 4 args0 K4 = ((.tuple #[.pointer none, .int .i64 1] : Value) = .tuple #[.pointer none, .int .i64 1]) := by kernel_rfl
theorem n3_c2_hi (c0 c1 c3 c4 c5 c6 c7 c8 : Cl) (b : Bool) (x : Nat → Int) (hc) (hb) : @callIs (S0 c0 c1 .hi c3 c4 c5 c6 c7 c8 b x hc hb) I2 200 3 args0 K3 = ((.bool true : Value) = .bool true) := by kernel_rfl
theorem n3_c5_hi (c0 c1 c6 c7 c8 : Cl) (b : Bool) (x : Nat → Int) (hc) (hb) : @callIs (S0 c0 c1 .ok .ok .ok .hi c6 c7 c8 b x hc hb) I2 200 3 args0 K3 = ((.bool true : Value) = .bool true) := by kernel_rfl
theorem n3_c8_hi (c0 c1 : Cl) (b : Bool) (x : Nat → Int) (hc) (hb) : @callIs (S0 c0 c1 .ok .ok .ok .ok .ok .ok .hi b x hc hb) I2 200 3 args0 K3 = ((.bool true : Value) = .bool true) := by kernel_rfl
end Go.Gh
