/- What the ghost machine does at an operation. -/
import Derived.Test.YtloflflapneheaaGreatDoorGhC
import Derived.Laws.Sem
set_option linter.unusedSectionVars false
set_option linter.unusedVariables false
set_option linter.unusedSimpArgs false
namespace Go.Gh
variable [Sym]

/-- a computation that asks nothing of memory -/
def sp {α : Type} (P : Program) : Sem α → Option α
  | .pure a => some a
  | .program k => sp P (k P)
  | .mark _ k => sp P k
  | _ => none
theorem sp_run {α : Type} {P : Program} (w : World) : ∀ (s : Sem α) (a : α), sp P s = some a → s.run P w = .ok a w
  | .pure a, b, h => by simp [sp] at h; subst h; rfl
  | .program k, b, h => by simp only [sp] at h; simp only [Sem.run]; exact sp_run w _ _ h
  | .mark m k, b, h => by simp only [sp] at h; simp only [Sem.run]; exact sp_run w _ _ h
  | .load .., _, h => by simp [sp] at h
  | .store .., _, h => by simp [sp] at h
  | .new .., _, h => by simp [sp] at h
  | .shape .., _, h => by simp [sp] at h
  | .freeze .., _, h => by simp [sp] at h
  | .frozen .., _, h => by simp [sp] at h
  | .getObj .., _, h => by simp [sp] at h
  | .setObj .., _, h => by simp [sp] at h
  | .choose .., _, h => by simp [sp] at h
  | .sys .., _, h => by simp [sp] at h
  | .halt .., _, h => by simp [sp] at h

inductive GN where
  | val (v : Value) (h : Heap)
  | call (f : FuncId) (args : List Value)
  | alts (l : List (Value × Heap))

abbrev Ev := Operand → Option Value

def isAg (P : Program) (t : TypeId) : Option Bool :=
  match P.underlying t with
  | some (.struct _) => some true
  | some (.array _ _) => some true
  | some _ => some false
  | none => none
def szOf (P : Program) (t : TypeId) : Option Nat := (P.info? t).map (·.size)
/-- the zero value, where it bears no address -/
def zeroOf (P : Program) (t : TypeId) : Option Value := ((P.info? t).bind (·.zero)).bind fun z => if plain z then some z else none
def elOf (P : Program) (t : TypeId) : Option TypeId :=
  match P.underlying t with
  | some (.slice e) => some e
  | _ => none

/-- n cells from off on -/
def cut (c : List Value) (off n : Nat) : Option (List Value) := if off + n ≤ c.length then some ((c.drop off).take n) else none
/-- cells laid over others -/
def lay (c : List Value) (off : Nat) (l : List Value) : List Value := c.take off ++ (l ++ c.drop (off + l.length))
def ones (l : List Value) : Bool := l.all (·.oneCell')

def gpart (P : Program) (t : TypeId) (c : List Value) (off : Nat) : Option Value :=
  match isAg P t with
  | some true => (szOf P t).map fun n => .agg ⟨(c.drop off).take n⟩
  | some false => c[off]?
  | none => none

def gload (P : Program) (t : TypeId) (h : Heap) : Value → Option Value
  | .pointer (some a) =>
    match h.get a.block with
    | some (.cells c _ _) =>
      match isAg P t with
      | some true => (szOf P t).bind fun n => (cut c a.off n).map fun l => .agg ⟨l⟩
      | some false => c[a.off]?
      | none => none
    | _ => none
  | _ => none

/-- cells of a block are written -/
def gput (h : Heap) (b off : Nat) (l : List Value) : Option Heap :=
  match h.get b with
  | some (.cells c e md) =>
    match md with
    | .ro => none
    | md => if ones l && Nat.ble (off + l.length) c.length then some (h.set b (some (.cells (lay c off l) e md))) else none
  | _ => none

def gstore (P : Program) (t : TypeId) (h : Heap) : Value → Value → Option Heap
  | .pointer (some a), v => (szOf P t).bind fun n => if (vcells v).length = n then gput h a.block a.off (vcells v) else none
  | _, _ => none

def gnew (h : Heap) (t : TypeId) (c : List Value) : GN := .val (.pointer (some ⟨h.next, 0, none⟩)) (h.new (.cells c t .ex))

def repeats (c : List Value) : Nat → List Value
  | 0 => []
  | n + 1 => c ++ repeats c n

/-- cells of the struct or array, parts laid in -/
def glay (place : Nat → Option (Nat × Nat)) : List Value → List (Nat × Value) → Option (List Value)
  | c, [] => some c
  | c, (i, v) :: rest =>
    match place i with
    | none => none
    | some (off, n) => if (vcells v).length = n ∧ off + n ≤ c.length then glay place (lay c off (vcells v)) rest else none
def evParts (ev : Ev) : List (Nat × Operand) → Option (List (Nat × Value))
  | [] => some []
  | (i, x) :: r => (ev x).bind fun v => (evParts ev r).map ((i, v) :: ·)
def evAll (ev : Ev) : List Operand → Option (List Value)
  | [] => some []
  | x :: r => (ev x).bind fun v => (evAll ev r).map (v :: ·)
def placesOf (P : Program) : List Field → Option (List (Nat × Nat))
  | [] => some []
  | f :: r => (szOf P f.type).bind fun n => (placesOf P r).map ((f.offset, n) :: ·)
def gbuild (P : Program) (t : TypeId) (ps : List (Nat × Value)) : Option Value :=
  (zeroOf P t).bind fun z =>
    match P.underlying t with
    | some (.struct fs) => (placesOf P fs.toList).bind fun pl => (glay (pl[·]?) (vcells z) ps).map fun c => .agg ⟨c⟩
    | some (.array _ e) => (szOf P e).bind fun n => (glay (fun i => some (i * n, n)) (vcells z) ps).map fun c => .agg ⟨c⟩
    | _ => none
def gbuildSlice (P : Program) (t : TypeId) (len : Nat) (ps : List (Nat × Value)) (h : Heap) : Option GN :=
  (elOf P t).bind fun e => (szOf P e).bind fun n =>
    if len * n ≤ 65536 ∧ 0 < n then
      (zeroOf P e).bind fun z => if (vcells z).length = n then
        (glay (fun i => some (i * n, n)) (repeats (vcells z) len) ps).map fun c =>
          .val (.slice (some ⟨h.next, 0, none⟩) len len) (h.new (.cells c e .ex))
      else none
    else none

def asI : Value → Option Int
  | .int _ n => some n
  | _ => none
def gmakeSlice (P : Program) (t : TypeId) (l c : Value) (h : Heap) : Option GN :=
  (elOf P t).bind fun e => (P.info? e).bind fun i => (asI l).bind fun l => (asI c).bind fun c => (zeroOf P e).bind fun z =>
    if 0 ≤ l ∧ l ≤ c ∧ c ≤ 4294967296 ∧ i.bytes ≤ 65536 ∧ 0 < i.size ∧ (vcells z).length = i.size then
      some (.val (.slice (some ⟨h.next, 0, none⟩) l.toNat c.toNat) (h.new (.cells (repeats (vcells z) c.toNat) e .ex)))
    else none

def gfieldAddr (P : Program) (t : TypeId) (i : Nat) : Value → Option Value
  | .pointer (some a) =>
    match P.underlying t with
    | some (.struct fs) => (fs[i]?).bind fun f => (szOf P f.type).bind fun n => if n = 0 then none else some (.pointer (some (a.add f.offset)))
    | _ => none
  | _ => none
def gfield (P : Program) (t : TypeId) (i : Nat) : Value → Option Value
  | .agg cs =>
    match P.underlying t with
    | some (.struct fs) => (fs[i]?).bind fun f => gpart P f.type cs.toList f.offset
    | _ => none
  | _ => none
def gindexAddr (P : Program) (t : TypeId) (x i : Value) : Option Value :=
  (asI i).bind fun i =>
    match P.underlying t, x with
    | some (.array n e), .pointer (some a) => (szOf P e).bind fun s => if 0 ≤ i ∧ i < n then some (.pointer (some (a.add (i.toNat * s)))) else none
    | some (.slice e), .slice (some a) n _ => (szOf P e).bind fun s => if 0 ≤ i ∧ i < n then some (.pointer (some (a.add (i.toNat * s)))) else none
    | _, _ => none
def gindex (P : Program) (t : TypeId) (x i : Value) : Option Value :=
  (asI i).bind fun i =>
    match P.underlying t, x with
    | some (.array n e), .agg cs => (szOf P e).bind fun s => if 0 ≤ i ∧ i < n then gpart P e cs.toList (i.toNat * s) else none
    | _, _ => none

def asOpt (v : Option (Option Value)) : Option (Option Int) :=
  match v with
  | none => some none
  | some (some (.int _ n)) => some (some n)
  | some _ => none
/-- the bounds of x[lo:hi:mx]; B: how far it goes for sure -/
def gbounds (len B cap : Nat) (lo hi mx : Option Int) : Option (Nat × Nat × Nat) :=
  match (match mx with | some m => if 0 ≤ m ∧ m ≤ B then some m.toNat else none | none => some cap) with
  | none => none
  | some m =>
    match (match hi, mx with
      | some x, some _ => if 0 ≤ x ∧ x ≤ m then some x.toNat else none
      | some x, none => if 0 ≤ x ∧ x ≤ B then some x.toNat else none
      | none, none => some len
      | none, some _ => none) with
    | none => none
    | some x =>
      match (match lo with | some y => if 0 ≤ y ∧ y ≤ x then some y.toNat else none | none => some 0) with
      | none => none
      | some y => some (y, x, m)
/-- how many elements lie behind an address for sure, in a block that may have more room than is told -/
def sure (h : Heap) (a : Addr) (e : TypeId) (s len cap : Nat) : Option Nat :=
  match h.get a.block with
  | some (.cells c e' .op) => if e' = e ∧ cap ≤ VC ∧ a.off = (VC - cap) * s ∧ a.off ≤ c.length ∧ 0 < s then (if len = 0 then some 0 else some ((c.length - a.off) / s)) else none
  | _ => none
def gslice (P : Program) (t : TypeId) (x : Value) (lo hi mx : Option Int) (h : Heap) : Option Value :=
  match P.underlying t, x with
  | some (.slice e), .slice (some a) len cap =>
    (szOf P e).bind fun s => if s = 0 then none else
      if cap < VH then
        (gbounds len cap cap lo hi mx).map fun (y, z, m) => .slice (some (if m = y then a else a.add (y * s))) (z - y) (m - y)
      else
        (sure h a e s len cap).bind fun B => (gbounds len B cap lo hi mx).bind fun (y, z, m) =>
          match mx with
          | some _ => if m < VH then some (.slice (some (if m = y then a else a.add (y * s))) (z - y) (m - y)) else none
          | none => if VH + y ≤ cap then some (.slice (some (a.add (y * s))) (z - y) (m - y)) else none
  | some (.array n e), .pointer (some a) =>
    (szOf P e).bind fun s => if s = 0 ∨ VH ≤ n then none else
      (gbounds n n n lo hi mx).map fun (y, z, m) => .slice (some (if m = y then a else a.add (y * s))) (z - y) (m - y)
  | _, _ => none

/-- an append's source: how many elements, and their cells -/
def gsrc (s : Nat) (h : Heap) : Value → Option (Nat × List Value)
  | .string b => if s = 1 then some (b.size, b.data.toList.map fun x => .int .u8 x.toNat) else none
  | .slice none _ _ => some (0, [])
  | .slice (some a) n _ =>
    if n = 0 then some (0, []) else
    match h.get a.block with
    | some (.cells c _ _) => (cut c a.off (n * s)).map fun l => (n, l)
    | _ => none
  | _ => none
/-- the old cells of an append that may move -/
def gold (h : Heap) (s : Nat) : Value → Option (List Value)
  | .slice none _ _ => some []
  | .slice (some a) n _ =>
    if n = 0 then some [] else
    match h.get a.block with
    | some (.cells c _ _) => cut c a.off (n * s)
    | _ => none
  | _ => none
def strOrSlice (P : Program) (t : TypeId) : Bool :=
  match P.underlying t with
  | some (.slice _) => true
  | some .string => true
  | _ => false
def gappend (P : Program) (t tx : TypeId) (s x : Value) (h : Heap) : Option GN :=
  (elOf P t).bind fun e => (P.info? e).bind fun i => (i.zero).bind fun z =>
    if (vcells z).length = i.size ∧ 0 < i.size ∧ 0 < i.bytes ∧ i.bytes ≤ 65536 then
      if strOrSlice P tx then
        match s with
        | .slice base n cap =>
          (gsrc i.size h x).bind fun (k, l) =>
            if k = 0 then some (.val (.slice base n cap) h) else
            if n + k > 1073741824 then none else
            if !ones l then none else
            if cap < VH then
              if n + k ≤ cap then
                match base with
                | some a => (gput h a.block (a.off + n * i.size) l).map fun h' => .val (.slice base (n + k) cap) h'
                | none => none
              else
                (gold h i.size s).map fun o => .val (.slice (some ⟨h.next, 0, none⟩) (n + k) VC) (h.new (.cells (o ++ l) e .op))
            else
              match base with
              | none => none
              | some a =>
                (sure h a e i.size n cap).bind fun B =>
                  if n + k ≤ B then (gput h a.block (a.off + n * i.size) l).map fun h' => .val (.slice base (n + k) cap) h'
                  else
                    (gold h i.size s).map fun o => .val (.slice (some ⟨h.next, 0, none⟩) (n + k) VC) ((h.set a.block none).new (.cells (o ++ l) e .op))
        | _ => none
      else none
    else none
def gcopy (P : Program) (t : TypeId) (d x : Value) (h : Heap) : Option GN :=
  (elOf P t).bind fun e => (szOf P e).bind fun s =>
    match d with
    | .slice base n _ =>
      (gsrc s h x).bind fun (k, l) =>
        if s = 0 then none else
        if min k n = 0 then some (.val (goInt 0) h) else
        match base with
        | none => none
        | some a => (gput h a.block a.off (l.take (min k n * s))).map fun h' => .val (goInt (min k n : Nat)) h'
    | _ => none

def gkey (k : Value) (es : List MapEntry) (eq : Value → Value → Option Bool) : Nat → Option (Option Nat) :=
  match es with
  | [] => fun _ => some none
  | e :: r => fun i =>
    match eq k e.key with
    | some true => some (some i)
    | some false => gkey k r eq (i + 1)
    | none => none
/-- two keys, by the model's own comparison -/
def keq (P : Program) (t : TypeId) (x y : Value) : Option Bool := if plain x && plain y then sp P (Op.equal t x y) else none
/-- where a key stands -/
def gfind (P : Program) (t : TypeId) (k : Value) (es : List MapEntry) : Option (Option Nat) :=
  if plain k then (sp P (Instr.checkKey es.isEmpty 10000 t k)).bind fun _ => gkey k es (keq P t) 0 else none
def gmapAt (h : Heap) : Value → Option (Nat × List MapEntry × Nat)
  | .map (some r) => match h.get r with | some (.map es ck) => some (r, es, ck) | _ => none
  | _ => none
def mapTy (P : Program) (t : TypeId) : Option (TypeId × TypeId) :=
  match P.underlying t with
  | some (.map k e) => some (k, e)
  | _ => none
def glookup (P : Program) (t : TypeId) (m k : Value) (ok : Bool) (h : Heap) : Option Value :=
  (mapTy P t).bind fun (kt, et) => (zeroOf P et).bind fun z =>
    match m with
    | .map none => (gfind P kt k []).map fun _ => if ok then .tuple #[z, .bool false] else z
    | m => (gmapAt h m).bind fun (_, es, _) => (gfind P kt k es).bind fun
        | some i => (es[i]?).map fun e => if ok then .tuple #[e.val, .bool true] else e.val
        | none => some (if ok then .tuple #[z, .bool false] else z)
def gupdate (P : Program) (t : TypeId) (m k v : Value) (h : Heap) : Option Heap :=
  (mapTy P t).bind fun (kt, _) => (gmapAt h m).bind fun (r, es, ck) =>
    if plain k then (sp P (Instr.checkKey false 10000 kt k)).bind fun _ => (gkey k es (keq P kt) 0).bind fun
      | some i => (es[i]?).bind fun e => if Instr.sameBits 10000 e.key k then some (h.set r (some (.map (es.set i { e with key := k, val := v }) ck))) else none
      | none => some (h.set r (some (.map (es ++ [{ key := k, val := v, born := ck }]) (ck + 1))))
    else none
def gdelete (P : Program) (t : TypeId) (m k : Value) (h : Heap) : Option Heap :=
  (mapTy P t).bind fun (kt, _) => (gmapAt h m).bind fun (r, es, ck) => (gfind P kt k es).bind fun
    | some i => some (h.set r (some (.map (es.eraseIdx i) ck)))
    | none => some h
def gclear (P : Program) (t : TypeId) (x : Value) (h : Heap) : Option Heap :=
  match P.underlying t, x with
  | some (.map _ _), .map (some r) => match h.get r with | some (.map _ ck) => some (h.set r (some (.map [] ck))) | _ => none
  | some (.map _ _), .map none => some h
  | some (.slice e), .slice (some a) n _ =>
    if n = 0 then some h else (zeroOf P e).bind fun z => (szOf P e).bind fun s => if (vcells z).length = s ∧ 0 < s then gput h a.block a.off (repeats (vcells z) n) else none
  | some (.slice _), .slice none _ _ => some h
  | _, _ => none
def glen (h : Heap) : Value → Option Value
  | .slice _ n _ => some (goInt n)
  | .map (some r) => match h.get r with | some (.map es _) => some (goInt es.length) | _ => none
  | _ => none

def grange (P : Program) (t : TypeId) (x : Value) (h : Heap) : Option GN :=
  match P.underlying t, x with
  | some .string, .string s => some (.val (.pointer (some ⟨h.next, 0, none⟩)) (h.new (.siter s 0)))
  | some (.map _ _), .map none => some (.val (.pointer (some ⟨h.next, 0, none⟩)) (h.new (.miter none 0 [] 0)))
  | some (.map _ _), .map (some m) =>
    match h.get m with
    | some (.map _ ck) => some (.val (.pointer (some ⟨h.next, 0, none⟩)) (h.new (.miter (some m) ck [] ck)))
    | _ => none
  | _, _ => none
def gnext (it : Value) (str : Bool) (h : Heap) : Option GN :=
  match it with
  | .pointer (some a) =>
    if a.off = 0 ∧ a.spot = none then
      match h.get a.block, str with
      | some (.siter s p), true =>
        if p < s.size then
          let d := Utf8.decode s p
          some (.val (.tuple #[.bool true, goInt p, .int .i32 d.1]) (h.set a.block (some (.siter s (p + d.2)))))
        else some (.val (.tuple #[.bool false]) h)
      | some (.miter none _ _ _), false => some (.val (.tuple #[.bool false]) h)
      | some (.miter (some m) since seen last), false =>
        match h.get m with
        | some (.map es ck) =>
          if !seen.isEmpty && !es.isEmpty && es.all (fun e => Nat.ble last e.born) then none else
          let left := es.filter fun e => !seen.contains e.born
          let old := left.filter fun e => Nat.blt e.born since
          let new := left.filter fun e => Nat.ble since e.born
          let go := (old ++ new).map fun e => ((.tuple #[.bool true, e.key, e.val] : Value), h.set a.block (some (.miter (some m) since (seen ++ [e.born]) ck)))
          some (.alts (if old.isEmpty then ((.tuple #[.bool false] : Value), h) :: go else go))
        | _ => none
      | _, _ => none
    else none
  | _ => none

def gentry (it : Value) (h : Heap) : Option Value :=
  match it with
  | .pointer (some a) =>
    if a.off = 0 ∧ a.spot = none then
      match h.get a.block with
      | some (.miter (some m) _ seen stepped) =>
        match seen.getLast?, h.get m with
        | some stamp, some (.map es ck) =>
          if ck = stepped then (es.find? fun e => e.born == stamp).map fun e => .tuple #[e.key, e.val] else none
        | _, _ => none
      | _ => none
    else none
  | _ => none

def toInts : Ev → Option Operand → Option (Option Int)
  | _, none => some none
  | ev, some x => (ev x).bind fun v => (asI v).map some

def evD (ev : Ev) (x : Operand) : Value := (ev x).getD undef
def allPlain (ev : Ev) (l : List Operand) : Bool := l.all fun x => match ev x with | some v => plain v | none => false
/-- an operation on values without addresses, which asks nothing of memory -/
def gpure (P : Program) (o : Oper) (ev : Ev) (h : Heap) : Option GN :=
  if allPlain ev o.op.operands.toList then
    match o.op with
    | .select .. => none
    | _ => match sp P (execOp (evD ev) o) with
      | some (.value v) => if plain v then some (.val v h) else none
      | _ => none
  else none
/-- '==' against nil -/
def gisNil (P : Program) (t : TypeId) : Value → Value → Option Bool
  | .pointer (some _), .pointer none => match P.underlying t with | some (.pointer _) => some false | _ => none
  | .slice (some _) _ _, .slice none _ _ => match P.underlying t with | some (.slice _) => some false | _ => none
  | .map (some _), .map none => match P.underlying t with | some (.map _ _) => some false | _ => none
  | .func _ _ _, .nilFunc => match P.underlying t with | some (.func _ _ _) => some false | _ => none
  | .iface _ _, .nilIface => match P.underlying t with | some (.interface _) => some false | _ => none
  | _, _ => none

def gbytes (P : Program) (src dst : TypeId) (x : Value) (h : Heap) : Option GN :=
  match P.underlying src, P.underlying dst, x with
  | some .string, some (.slice e), .string s =>
    match P.underlying e, P.info? e with
    | some (.int .u8), some i => if i.size = 1 ∧ s.size ≤ 1073741824 then some (.val (.slice (some ⟨h.next, 0, none⟩) s.size VC) (h.new (.cells (s.data.toList.map fun x => .int .u8 x.toNat) e .op))) else none
    | _, _ => none
  | some (.slice e), some .string, .slice (some a) n _ =>
    match P.underlying e with
    | some (.int .u8) =>
      if n = 0 then some (.val (.string .empty) h) else
      match h.get a.block with
      | some (.cells c _ _) => (cut c a.off n).bind fun l =>
          if l.all (fun v => match v with | .int .u8 _ => true | _ => false) then some (.val (.string ⟨(l.map fun v => match v with | .int _ n => UInt8.ofNat n.toNat | _ => 0).toArray⟩) h) else none
      | _ => none
    | _ => none
  | _, _, _ => none

def gtypeAssert (P : Program) (asserted : TypeId) (ok : Bool) : Value → Option Value
  | .iface t v =>
    match P.underlying asserted with
    | some (.interface _) => none
    | some _ => if t = asserted then some (if ok then .tuple #[v, .bool true] else v) else if ok then (zeroOf P asserted).map fun z => .tuple #[z, .bool false] else none
    | none => none
  | _ => none

def gcallv (f : Value) (args : List Value) : Option GN :=
  match f with
  | .func (.func f) first captured => some (.call f (first.toList ++ (args ++ captured.toList)))
  | _ => none
def ginvoke (P : Program) (x : Value) (name : String) (args : List Value) : Option GN :=
  match x with
  | .iface t v =>
    match P.info? t with
    | some i =>
      match i.methods.find? (·.name == name) with
      | some m =>
        match m.path.isEmpty, m.func, P.underlying t with
        | true, some (f, true), some (.pointer _) => some (.call f (v :: args))
        | true, some (_, false), some (.pointer _) => none
        | true, some (f, false), some _ => some (.call f (v :: args))
        | _, _, _ => none
      | none => none
    | none => none
  | _ => none

def gbuiltin (P : Program) (o : Oper) (b : Builtin) (ats : Array TypeId) (args : List Value) (ev : Ev) (h : Heap) : Option GN :=
  match b, args with
  | .append, [s, x] =>
    match ats[0]?, ats[1]? with
    | some t, some tx => gappend P t tx s x h
    | _, _ => none
  | .copy, [d, x] => (ats[0]?).bind fun t => gcopy P t d x h
  | .len, [x] => match (ats[0]?).bind P.underlying with
    | some (.slice _) => match x with | .slice _ n _ => some (.val (goInt n) h) | _ => none
    | some (.map _ _) => match x with | .map none => some (.val (goInt 0) h) | .map (some r) => (glen h (.map (some r))).map fun v => .val v h | _ => none
    | _ => gpure P o ev h
  | .clear, [x] => (ats[0]?).bind fun t => (gclear P t x h).map fun h' => .val (.tuple #[]) h'
  | .max, _ => gpure P o ev h
  | .min, _ => gpure P o ev h
  | .real, _ => gpure P o ev h
  | .imag, _ => gpure P o ev h
  | .complex, _ => gpure P o ev h
  | _, _ => none

def gop (P : Program) (o : Oper) (ev : Ev) (h : Heap) : Option GN :=
  match o.op with
  | .move x => (ev x).map fun v => .val v h
  | .assign x => (ev x).map fun v => .val v h
  | .pick c a b => (ev c).bind fun
      | .bool t => (ev (bif t then a else b)).map fun v => .val v h
      | _ => none
  | .alloc t => (zeroOf P t).map fun z => gnew h t (vcells z)
  | .box t x => (ev x).map fun v => gnew h t (vcells v)
  | .build t ps => (evParts ev ps.toList).bind fun ps => (gbuild P t ps).map fun v => .val v h
  | .buildSlice t n ps => (evParts ev ps.toList).bind fun ps => gbuildSlice P t n ps h
  | .load t x => (ev x).bind fun a => (gload P t h a).map fun v => .val v h
  | .store t x y => (ev x).bind fun a => (ev y).bind fun v => (gstore P t h a v).map fun h' => .val undef h'
  | .nilCheck x => (ev x).bind fun
      | .pointer (some a) => some (.val (.pointer (some a)) h)
      | _ => none
  | .binOp op t x y _ => (ev x).bind fun a => (ev y).bind fun b =>
      if plain a && plain b then gpure P o ev h else
      match op with
      | .eql => (gisNil P t a b).map fun r => .val (.bool r) h
      | .neq => (gisNil P t a b).map fun r => .val (.bool (!r)) h
      | op => (Sym.bin op a b).map fun r => .val (.bool r) h
  | .unOp .. => gpure P o ev h
  | .convert .. => gpure P o ev h
  | .makeInterface t x => (ev x).bind fun v => match P.underlying t with
      | some (.interface _) => none
      | some _ => some (.val (.iface t v) h)
      | none => none
  | .makeFunc f a b => match f with
      | .func _ => (evAll ev a.toList).bind fun a => (evAll ev b.toList).map fun b => .val (.func f ⟨a⟩ ⟨b⟩) h
      | _ => none
  | .makeMap t r => match r with
      | none => some (.val (.map (some h.next)) (h.new (.map [] 0)))
      | some x => (ev x).bind fun v => (asI v).bind fun _ => (mapTy P t).map fun _ => .val (.map (some h.next)) (h.new (.map [] 0))
  | .makeSlice t l c => (ev l).bind fun l => (ev c).bind fun c => gmakeSlice P t l c h
  | .slice t x lo hi mx => (ev x).bind fun v =>
      if plain v then gpure P o ev h else
      (toInts ev lo).bind fun lo => (toInts ev hi).bind fun hi => (toInts ev mx).bind fun mx => (gslice P t v lo hi mx h).map fun v => .val v h
  | .fieldAddr t x i => (ev x).bind fun v => (gfieldAddr P t i v).map fun v => .val v h
  | .field t x i => (ev x).bind fun v => (gfield P t i v).map fun v => .val v h
  | .indexAddr t x i => (ev x).bind fun v => (ev i).bind fun i => (gindexAddr P t v i).map fun v => .val v h
  | .index t x i => (ev x).bind fun v => (ev i).bind fun k => if plain v then gpure P o ev h else (gindex P t v k).map fun v => .val v h
  | .lookup t m k ok => (ev m).bind fun m => (ev k).bind fun k => (glookup P t m k ok h).map fun v => .val v h
  | .mapUpdate t m k v => (ev m).bind fun m => (ev k).bind fun k => (ev v).bind fun v => (gupdate P t m k v h).map fun h' => .val undef h'
  | .insert t m k v => (ev m).bind fun m => (ev k).bind fun k => (ev v).bind fun v => (gupdate P t m k v h).map fun h' => .val undef h'
  | .range t x => (ev x).bind fun v => grange P t v h
  | .next it s => (ev it).bind fun v => gnext v s h
  | .entry it => (ev it).bind fun v => (gentry v h).map fun v => .val v h
  | .extract t i => (ev t).bind fun
      | .tuple vs => (vs.toList[i]?).map fun v => .val v h
      | _ => none
  | .call c =>
    (evAll ev c.args.toList).bind fun args =>
    match c.callee with
    | .value f => (ev f).bind fun f => gcallv f args
    | .invoke r m => (ev r).bind fun r => ginvoke P r m args
    | .builtin b => gbuiltin P o b c.argTypes args ev h
  | _ => none
end Go.Gh
