/- The ghost machine. -/
import Derived.Test.YtloflflapneheaaGreatDoorGhD
set_option linter.unusedSectionVars false
set_option linter.unusedVariables false
set_option linter.unusedSimpArgs false
namespace Go.Gh
variable [Sym]

structure GAct where
  tmps : List Value
def GAct.ev (a : GAct) : Ev
  | .tmp t => some (a.tmps.getD t undef)
  | .const v => if plain v then some v else none
  | .global _ => none
  | .func f => some (.func (.func f) #[] #[])
def GAct.put (a : GAct) (d : Option Tmp) (v : Value) : GAct := match d with | some d => ⟨a.tmps.set d v⟩ | none => a

abbrev GQ := Exit → GAct → Heap → Prop
/-- functions that are taken as a whole -/
abbrev Intr := FuncId → Option (List Value → Heap → Option (Value × Heap))

def gyield (ops : List Oper) (tmps : List Value) (j : Nat) : Option Bool :=
  match ((ops[j]?).bind (·.dst)).bind (tmps[·]?) with
  | some (.bool b) => some b
  | _ => none
def gwant (o : Oper) (ops : List Oper) (tmps : List Value) : Bool :=
  match o.guard with
  | none => true
  | some (j, want) => gyield ops tmps j == some want

abbrev Callee := FuncId → List Value → (Value → Heap → Prop) → Heap → Prop

/-- all of several ways -/
def galt (K : Value × Heap → Prop) : List (Value × Heap) → Prop
  | [] => False
  | [x] => K x
  | x :: y :: r => K x ∧ galt K (y :: r)
theorem galt_mem {K : Value × Heap → Prop} : ∀ {l : List (Value × Heap)}, galt K l → ∀ x ∈ l, K x
  | [], h, _, _ => h.elim
  | [x], h, y, hy => by simp at hy; subst hy; exact h
  | x :: y :: r, h, z, hz => by
    rcases List.mem_cons.1 hz with rfl | hz
    · exact h.1
    · exact galt_mem h.2 z hz

/-- operations in the order of the text -/
def gops (P : Program) (call : Callee) (ops : List Oper) (Q : GQ) : List Oper → GAct → Heap → Prop
  | [], a, h => Q .normal a h
  | o :: rest, a, h =>
    match gwant o ops a.tmps with
    | false => gops P call ops Q rest (a.put o.dst undef) h
    | true =>
      match gop P o a.ev h with
      | none => False
      | some (.val v h') => gops P call ops Q rest (a.put o.dst v) h'
      | some (.call f args) => call f args (fun v h' => gops P call ops Q rest (a.put o.dst v) h') h
      | some (.alts l) => galt (fun x => gops P call ops Q rest (a.put o.dst x.1) x.2) l

/-! ### regions that draw their order -/
/-- what neither changes memory nor makes a block -/
def isSoft (o : Op) : Bool := match o with
  | .move _ | .assign _ | .pick .. | .build .. | .nilCheck _ | .binOp .. | .unOp .. | .makeInterface .. | .makeFunc .. | .fieldAddr .. | .field .. | .indexAddr .. | .index .. | .extract .. => true
  | .slice .. | .load .. | .lookup .. | .convert .. => true
  | .call { callee := .builtin b, .. } => match b with
    | .len | .max | .min | .real | .imag | .complex => true
    | _ => false
  | _ => false

def hasN (l : List Nat) (d : Nat) : Bool := match l with
  | [] => false
  | x :: r => x.beq d || hasN r d
theorem hasN_iff {l : List Nat} {d : Nat} : hasN l d = true ↔ d ∈ l := by
  induction l with
  | nil => simp [hasN]
  | cons x r ih =>
    simp only [hasN, Bool.or_eq_true, Nat.beq_eq, ih, List.mem_cons]
    constructor
    · rintro (h | h)
      · exact .inl h.symm
      · exact .inr h
    · rintro (h | h)
      · exact .inl h.symm
      · exact .inr h

/-- what must stand ahead of each operation -/
def maskOf (m : List Nat) (o : Oper) : Nat := o.after.toList.foldl (fun s e => bif Region.binds .any e then s ||| 2 ^ e.on ||| m.getD e.on 0 else s) 0
def masks : List Oper → List Nat → List Nat
  | [], m => m
  | o :: r, m => masks r (m ++ [maskOf m o])
def tmpsOf (o : Oper) : List Tmp := o.op.operands.toList.filterMap fun | .tmp t => some t | _ => none
def readsOf (ops : List Oper) (o : Oper) : List Tmp := tmpsOf o ++ (match o.guard with | some (j, _) => ((ops[j]?).bind (·.dst)).toList | none => [])
/-- whoever else names what it writes waits for it -/
def waited (ops : List Oper) (m : List Nat) (i d : Nat) : List Oper → Nat → Bool
  | [], _ => true
  | o :: r, j => (j.beq i || (!hasN (readsOf ops o) d || (m.getD j 0).testBit i)) && waited ops m i d r (j + 1)
def softs (ops : List Oper) (m : List Nat) : List Oper → Nat → Nat
  | [], _ => 0
  | o :: r, i => (bif isSoft o.op && (match o.dst with | none => true | some d => waited ops m i d ops 0) then 2 ^ i else 0) + softs ops m r (i + 1)

/-- two of a region's operations: one writer a temporary; who names it is ordered against that writer; a soft writer stands ahead -/
def pairOk (ops : List Oper) (m : List Nat) (sm : Nat) (i : Nat) (d : Tmp) : List Oper → Nat → Bool
  | [], _ => true
  | o :: r, j => (j.beq i || ((match o.dst with | some d' => !(d'.beq d) | none => true) &&
      (!hasN (readsOf ops o) d || ((m.getD j 0).testBit i || (!sm.testBit i && (m.getD i 0).testBit j))))) && pairOk ops m sm i d r (j + 1)
def oneOk (ops : List Oper) (m : List Nat) (sm : Nat) (i : Nat) (o : Oper) : Bool :=
  (m.getD i 0).beq (maskOf m o) && Nat.blt (m.getD i 0) (2 ^ i) &&
  (match o.dst with | none => true | some d => !hasN (tmpsOf o) d && pairOk ops m sm i d ops 0) &&
  (match o.guard with | none => true | some (j, _) => (m.getD i 0).testBit j) &&
  (!sm.testBit i || isSoft o.op)
def drOkFrom (ops : List Oper) (m : List Nat) (sm : Nat) : List Oper → Nat → Bool
  | [], _ => true
  | o :: r, i => oneOk ops m sm i o && drOkFrom ops m sm r (i + 1)
def drOk (ops : List Oper) (m : List Nat) (sm : Nat) : Bool := drOkFrom ops m sm ops 0

mutual
def veq : Value → Value → Bool
  | .bool a, .bool b => a == b
  | .int k a, .int j b => decide (k = j) && a == b
  | .float k a, .float j b => decide (k = j) && a == b
  | .complex k a c, .complex j b d => decide (k = j) && a == b && c == d
  | .string a, .string b => decide (a = b)
  | .pointer a, .pointer b => decide (a = b)
  | .slice a n c, .slice b m d => decide (a = b) && n == m && c == d
  | .map a, .map b => decide (a = b)
  | .chan a, .chan b => decide (a = b)
  | .func f ⟨a⟩ ⟨c⟩, .func g ⟨b⟩ ⟨d⟩ => decide (f = g) && veqs a b && veqs c d
  | .nilFunc, .nilFunc => true
  | .iface t a, .iface u b => t == u && veq a b
  | .nilIface, .nilIface => true
  | .agg ⟨a⟩, .agg ⟨b⟩ => veqs a b
  | .tuple ⟨a⟩, .tuple ⟨b⟩ => veqs a b
  | _, _ => false
def veqs : List Value → List Value → Bool
  | [], [] => true
  | a :: r, b :: s => veq a b && veqs r s
  | _, _ => false
end

/-- what an operation may ask for: its own operands alone -/
def GAct.evIn (l : List Tmp) (a : GAct) : Ev
  | .tmp t => bif hasN l t then some (a.tmps.getD t undef) else none
  | x => a.ev x

def readySoft (m : List Nat) (sm done : Nat) : List Oper → Nat → Option (Nat × Oper)
  | [], _ => none
  | o :: r, i => bif sm.testBit i && (!done.testBit i && (m.getD i 0 &&& done).beq (m.getD i 0)) then some (i, o) else readySoft m sm done r (i + 1)
def readyLoud (m : List Nat) (sm done : Nat) : List Oper → Nat → List (Nat × Oper)
  | [], _ => []
  | o :: r, i => bif !sm.testBit i && (!done.testBit i && (m.getD i 0 &&& done).beq (m.getD i 0)) then (i, o) :: readyLoud m sm done r (i + 1) else readyLoud m sm done r (i + 1)

/-- what was read still reads the same -/
def steady1 (P : Program) (ops : List Oper) (a : GAct) (h : Heap) (o : Oper) : Bool :=
  match gwant o ops a.tmps with
  | false => true
  | true => match gop P o (a.evIn (tmpsOf o)) h with
    | some (.val v _) => match o.dst with
      | none => true
      | some d => veq (a.tmps.getD d undef) v
    | _ => false
def steady (P : Program) (ops : List Oper) (sm done mask : Nat) (a : GAct) (h : Heap) : List Oper → Nat → Bool
  | [], _ => true
  | o :: r, i => (bif sm.testBit i && (done.testBit i && !mask.testBit i) then steady1 P ops a h o else true) && steady P ops sm done mask a h r (i + 1)

/-- each of several -/
def gand (K : Nat × Oper → Prop) : List (Nat × Oper) → Prop
  | [] => False
  | [x] => K x
  | x :: y :: r => K x ∧ gand K (y :: r)
theorem gand_mem {K : Nat × Oper → Prop} : ∀ {l : List (Nat × Oper)}, gand K l → ∀ x ∈ l, K x
  | [], h, _, _ => h.elim
  | [x], h, y, hy => by simp at hy; subst hy; exact h
  | x :: y :: r, h, z, hz => by
    rcases List.mem_cons.1 hz with rfl | hz
    · exact h.1
    · exact gand_mem h.2 z hz

def gdr (P : Program) (call : Callee) (ops : List Oper) (m : List Nat) (sm : Nat) (Q : GQ) : Nat → Nat → GAct → Heap → Prop
  | 0, done, a, h => match done.beq (2 ^ ops.length - 1) with
    | true => Q .normal a h
    | false => False
  | f + 1, done, a, h =>
    match readySoft m sm done ops 0 with
    | some (i, o) =>
      match gwant o ops a.tmps with
      | false => gdr P call ops m sm Q f (done ||| 2 ^ i) (a.put o.dst undef) h
      | true => match gop P o (a.evIn (tmpsOf o)) h with
        | some (.val v _) => gdr P call ops m sm Q f (done ||| 2 ^ i) (a.put o.dst v) h
        | _ => False
    | none => gand (fun (i, o) =>
      match gwant o ops a.tmps with
      | false => gdr P call ops m sm Q f (done ||| 2 ^ i) (a.put o.dst undef) h
      | true => match gop P o (a.evIn (tmpsOf o)) h with
        | some (.val v h') => match steady P ops sm done (m.getD i 0) (a.put o.dst v) h' ops 0 with
          | true => gdr P call ops m sm Q f (done ||| 2 ^ i) (a.put o.dst v) h'
          | false => False
        | some (.call g args) => call g args (fun v h' => match steady P ops sm done (m.getD i 0) (a.put o.dst v) h' ops 0 with
          | true => gdr P call ops m sm Q f (done ||| 2 ^ i) (a.put o.dst v) h'
          | false => False) h
        | _ => False) (readyLoud m sm done ops 0)
def gregion (P : Program) (call : Callee) (ops : List Oper) (Q : GQ) (a : GAct) (h : Heap) (m : List Nat) (sm : Nat) : Prop :=
  match drOk ops m sm with
  | true => gdr P call ops m sm Q ops.length 0 a h
  | false => False

def gresult (P : Program) (a : GAct) (h : Heap) : ResultVar → Option Value
  | .tmp t => some (a.tmps.getD t undef)
  | .cell x t => gload P t h (a.tmps.getD x undef)
def gresultsL (P : Program) (a : GAct) (h : Heap) : List ResultVar → Option (List Value)
  | [] => some []
  | r :: rs => (gresult P a h r).bind fun v => (gresultsL P a h rs).map (v :: ·)
def gresults (P : Program) (fn : Func) (a : GAct) (h : Heap) : Option Value :=
  (gresultsL P a h fn.results.toList).map fun
    | [v] => v
    | l => .tuple ⟨l⟩
/-- what a body's end hands back -/
def gret (P : Program) (fn : Func) (K : Value → Heap → Prop) : GQ
  | .normal, a, h => match gresults P fn a h with | some v => K v h | none => False
  | .ret, a, h => match gresults P fn a h with | some v => K v h | none => False
  | _, _, _ => False
def gact (fn : Func) (args : List Value) : GAct := ⟨args ++ List.replicate (fn.ntmps - args.length) undef⟩

abbrev Rec := Code → GQ → GAct → Heap → Prop
def gcallee (P : Program) (I : Intr) (rec : Rec) : Callee := fun f args K h =>
  match I f with
  | some g => match g args h with
    | some (v, h') => K v h'
    | none => False
  | none =>
    match P.funcs[f]? with
    | some fn => match fn.body with
      | some c => rec c (gret P fn K) (gact fn args) h
      | none => False
    | none => False

def gthen (rec : Rec) (y : Code) (Q : GQ) : GQ
  | .normal, a, h => rec y Q a h
  | e, a, h => Q e a h
def gblock (id : Nat) (Q : GQ) : GQ
  | .exit i, a, h => match i.beq id with | true => Q .normal a h | false => Q (.exit i) a h
  | e, a, h => Q e a h
/-- a scope: a jump within it goes on behind its label -/
def gscope (rec : Code → Code → GQ → GAct → Heap → Prop) (body : Code) (Q : GQ) : GQ
  | .goto l, a, h => match findLabel body l with
    | some c => rec body c Q a h
    | none => Q (.goto l) a h
  | e, a, h => Q e a h

def gstep (P : Program) (I : Intr) (rec : Rec) (jump : Code → Code → GQ → GAct → Heap → Prop) : Rec := fun c Q a h =>
  match c with
  | .skip => Q .normal a h
  | .region _ ops draw =>
    match draw with
    | false => gops P (gcallee P I rec) ops.toList Q ops.toList a h
    | true => gregion P (gcallee P I rec) ops.toList Q a h (masks ops.toList []) (softs ops.toList (masks ops.toList []) ops.toList 0)
  | .seq x y => rec x (gthen rec y Q) a h
  | .cond c x y => match a.ev c with
    | some (.bool b) => match b with
      | true => rec x Q a h
      | false => rec y Q a h
    | _ => False
  | .block id b => rec b (gblock id Q) a h
  | .loop b => rec b (gthen rec (.loop b) Q) a h
  | .exit i => Q (.exit i) a h
  | .scope b => rec b (gscope jump b Q) a h
  | .label _ => Q .normal a h
  | .goto l => Q (.goto l) a h
  | .ret => Q .ret a h
  | _ => False

/-- n steps deep; the second part: code that is gone on with inside a scope -/
def gboth (P : Program) (I : Intr) : Nat → Rec × (Code → Code → GQ → GAct → Heap → Prop)
  | 0 => (fun _ _ _ _ => False, fun _ _ _ _ _ => False)
  | n + 1 => (gstep P I (gboth P I n).1 (gboth P I n).2, fun body c Q a h => (gboth P I n).1 c (gscope (gboth P I n).2 body Q) a h)
def gcode (P : Program) (I : Intr) (n : Nat) : Rec := (gboth P I n).1
def gcall (P : Program) (I : Intr) (n : Nat) : Callee := gcallee P I (gcode P I n)

/-- a library function without a body that asks nothing of memory -/
def gext (P : Program) (f : FuncId) : List Value → Heap → Option (Value × Heap) := fun args h =>
  if plains args then
    match sp P (callFunc f args.toArray) with
    | some (.value v) => if plain v then some (v, h) else none
    | _ => none
  else none
end Go.Gh
