/- Part of the proof of vistalaw15.CallNews: a step by step evaluation of its body. -/
import Derived.Test.YtloflflapneheaaGreatDoorGhZ1
set_option linter.unusedSectionVars false
set_option linter.unusedVariables false
set_option linter.unusedSimpArgs false
namespace Go.Gh
set_option maxRecDepth 100000
theorem n4_c0_lo (c1 c2 c3 c4 c5 c6 c7 c8 : Cl) (b : Bool) (x : Nat → Int) (hc) (hb) : @callIs (S0 .lo c1 c2 c3 c4 c5 c6 c7 c8 b x hc hb) I1 200 4 args0 K4 = ((.tuple #[.pointer none, .int .i64 1] : Value) = .tuple #[.pointer none, .int .i64 1]) := by kernel_rfl
theorem n4_c2_lo (c3 c4 c5 c6 c7 : Cl) (b : Bool) (x : Nat → Int) (hc) (hb) : @callIs (S0 .ok .ok .lo c3 c4 c5 c6 c7 .ok b x hc hb) I1 200 4 args0 K4 = ((.tuple #[.pointer none, .int .i64 1] : Value) = .tuple #[.pointer none, .int .i64 1]) := by kernel_rfl
theorem n4_c5_lo (c6 c7 : Cl) (b : Bool) (x : Nat → Int) (hc) (hb) : @callIs (S0 .ok .ok .ok .ok .ok .lo c6 c7 .ok b x hc hb) I1 200 4 args0 K4 = ((.tuple #[.pointer none, .int .i64 1] : Value) = .tuple #[.pointer none, .int .i64 1]) := by kernel_rfl
theorem n4_b (x : Nat → Int) (hc) (hb) : @callIs (S0 .ok .ok .ok .ok .ok .ok .ok .ok .ok true x hc hb) I1 200 4 args0 K4 = ((.tuple #[.pointer none, .int .i64 1] : Value) = .tuple #[.pointer none, .int .i64 1]) := by kernel_rfl
theorem n3_c4_hi (c0 c1 c5 c6 c7 c8 : Cl) (b : Bool) (x : Nat → Int) (hc) (hb) : @callIs (S0 c0 c1 .ok .ok .hi c5 c6 c7 c8 b x hc hb) I2 200 3 args0 K3 = ((.bool true : Value) = .bool true) := by kernel_rfl
theorem n3_c7_hi (c0 c1 c8 : Cl) (b : Bool) (x : Nat → Int) (hc) (hb) : @callIs (S0 c0 c1 .ok .ok .ok .ok .ok .hi c8 b x hc hb) I2 200 3 args0 K3 = ((.bool true : Value) = .bool true) := by kernel_rfl
theorem n3_c1_lo (x : Nat → Int) (hc) (hb) : @callIs (S0 .ok .lo .ok .ok .ok .ok .ok .ok .ok false x hc hb) I2 200 3 args0 K3 = ((.bool true : Value) = .bool true) := by kernel_rfl
end Go.Gh
