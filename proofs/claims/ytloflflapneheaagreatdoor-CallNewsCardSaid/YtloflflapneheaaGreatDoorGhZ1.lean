/- Part of the proof of vistalaw15.CallNews: a step by step evaluation of its body. -/
import Derived.Test.YtloflflapneheaaGreatDoorGhY
import Derived.KernelRfl
import Derived.Test.YtloflflapneheaaGreatDoorProg
set_option linter.unusedSectionVars false
set_option linter.unusedVariables false
set_option linter.unusedSimpArgs false
namespace Go.Gh
open Go.Proofs
def sp0 : Nat → Span
  | 0 => ⟨1, 4⟩
  | 1 => ⟨1, 1099511627776⟩
  | 2 => ⟨1, 4⟩
  | 3 => ⟨1, 64⟩
  | 4 => ⟨1, 16⟩
  | 5 => ⟨0, 8⟩
  | 6 => ⟨1, 32⟩
  | 7 => ⟨1, 16⟩
  | _ => ⟨0, 8⟩
def cls (c0 c1 c2 c3 c4 c5 c6 c7 c8 : Cl) : Nat → Cl
  | 0 => c0
  | 1 => c1
  | 2 => c2
  | 3 => c3
  | 4 => c4
  | 5 => c5
  | 6 => c6
  | 7 => c7
  | _ => c8
def args0 : List Value := [.chan (some 0), .chan (some 1), .agg ⟨[.chan (some 2), .chan (some 3), .chan (some 4), .chan (some 5), .chan (some 6), .chan (some 7), .chan (some 8)]⟩]
/-- Go's library functions without a body that are called here -/
noncomputable def lib0 (f : Nat) : Option (List Value → Heap → Option (Value × Heap)) := match f with
  | 120 => some (gext Tryz.prog 120)
  | 149 => some (gext Tryz.prog 149)
  | 167 => some (gext Tryz.prog 167)
  | 161 => some (gext Tryz.prog 161)
  | _ => none
def awake0 (args : List Value) (h : Heap) : Option (Value × Heap) := match args with
  | [] => some (.bool true, h)
  | _ => none
/-- 'awake' taken as a whole -/
noncomputable def I1 : Intr := fun f => match f with
  | 5 => some awake0
  | f => lib0 f
def bad0 (args : List Value) (h : Heap) : Option (Value × Heap) := match veqs args args0 with
  | true => some (.tuple #[.pointer none, .int .i64 1], h)
  | false => none
/-- 'awake' and a 'New' that refuses taken as a whole -/
noncomputable def I2 : Intr := fun f => match f with
  | 5 => some awake0
  | 4 => some bad0
  | f => lib0 f
abbrev S0 (c0 c1 c2 c3 c4 c5 c6 c7 c8 : Cl) (b : Bool) (x : Nat → Int) (hc : ∀ i, cls c0 c1 c2 c3 c4 c5 c6 c7 c8 i = Cl.of (sp0 i).lo (sp0 i).hi (x i)) (hb : b = decide (x 0 > x 2)) : Sym :=
  spans sp0 (cls c0 c1 c2 c3 c4 c5 c6 c7 c8) b x hc hb

theorem of_eqt {p : Prop} (v : Value) (h : p = (v = v)) : p := h ▸ rfl
def K4 (v : Value) (_ : Heap) : Prop := v = .tuple #[.pointer none, .int .i64 1]
def K3 (v : Value) (_ : Heap) : Prop := v = .bool true
@[irreducible] def callIs [Sym] (I : Intr) (n f : Nat) (args : List Value) (K : Value → Heap → Prop) : Prop := gcall Tryz.prog I n f args K Heap.empty
theorem callIs_eq [Sym] (I : Intr) (n f : Nat) (args : List Value) (K : Value → Heap → Prop) (h : callIs I n f args K) : gcall Tryz.prog I n f args K Heap.empty := by unfold callIs at h; exact h

set_option maxRecDepth 100000
/-- the good way through -/
theorem good (x : Nat → Int) (hc) (hb) : @callIs (S0 .ok .ok .ok .ok .ok .ok .ok .ok .ok false x hc hb) I1 300 3 args0 K3 = (Value.bool true = Value.bool true) := by kernel_rfl
end Go.Gh
