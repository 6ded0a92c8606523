/- Part of the proof of vistalaw15.CallNews: a step by step evaluation of its body. -/
import Derived.Test.YtloflflapneheaaGreatDoorGhZ1
set_option linter.unusedSectionVars false
set_option linter.unusedVariables false
set_option linter.unusedSimpArgs false
namespace Go.Gh
set_option maxRecDepth 100000
theorem n4_c8_lo (c2 c3 c4 c5 c6 c7 : Cl) (b : Bool) (x : Nat → Int) (hc) (hb) : @callIs (S0 .ok .ok c2 c3 c4 c5 c6 c7 .lo b x hc hb) I1 200 4 args0 K4 = ((.tuple #[.pointer none, .int .i64 1] : Value) = .tuple #[.pointer none, .int .i64 1]) := by kernel_rfl
theorem n4_c4_lo (c5 c6 c7 : Cl) (b : Bool) (x : Nat → Int) (hc) (hb) : @callIs (S0 .ok .ok .ok .ok .lo c5 c6 c7 .ok b x hc hb) I1 200 4 args0 K4 = ((.tuple #[.pointer none, .int .i64 1] : Value) = .tuple #[.pointer none, .int .i64 1]) := by kernel_rfl
theorem n4_c7_lo (b : Bool) (x : Nat → Int) (hc) (hb) : @callIs (S0 .ok .ok .ok .ok .ok .ok .ok .lo .ok b x hc hb) I1 200 4 args0 K4 = ((.tuple #[.pointer none, .int .i64 1] : Value) = .tuple #[.pointer none, .int .i64 1]) := by kernel_rfl
theorem n3_c3_hi (c0 c1 c4 c5 c6 c7 c8 : Cl) (b : Bool) (x : Nat → Int) (hc) (hb) : @callIs (S0 c0 c1 .ok .hi c4 c5 c6 c7 c8 b x hc hb) I2 200 3 args0 K3 = ((.bool true : Value) = .bool true) := by kernel_rfl
theorem n3_c6_hi (c0 c1 c7 c8 : Cl) (b : Bool) (x : Nat → Int) (hc) (hb) : @callIs (S0 c0 c1 .ok .ok .ok .ok .hi c7 c8 b x hc hb) I2 200 3 args0 K3 = ((.bool true : Value) = .bool true) := by kernel_rfl
theorem n3_b_ok (c1 : Cl) (x : Nat → Int) (hc) (hb) : @callIs (S0 .ok c1 .ok .ok .ok .ok .ok .ok .ok true x hc hb) I2 200 3 args0 K3 = ((.bool true : Value) = .bool true) := by kernel_rfl
end Go.Gh
