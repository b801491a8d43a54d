import GoSem.Step
set_option linter.unusedVariables false
namespace Go.Proofs.Ytkghejleififiaa.AS
open Go

/-- what lies in a block of the little machine's memory -/
inductive Ob where
  | blk (cells : List Value) (unit : Nat) (ro : Bool)
  | mp (es : List (Value × Value))
  deriving Inhabited

inductive Tr where
  | leaf
  | node (v : Option Ob) (l r : Tr)
  deriving Inhabited

def Tr.get : Tr → Nat → Option Ob
  | .leaf, _ => none
  | .node v l r, i =>
    match Nat.beq i 0 with
    | true => v
    | false =>
      match Nat.beq (i % 2) 1 with
      | true => l.get (i / 2)
      | false => r.get (i / 2 - 1)

def Tr.set (o : Option Ob) : Nat → Tr → Nat → Tr
  | 0, t, _ => t
  | n + 1, .leaf, i =>
    match Nat.beq i 0 with
    | true => .node o .leaf .leaf
    | false =>
      match Nat.beq (i % 2) 1 with
      | true => .node none (Tr.set o n .leaf (i / 2)) .leaf
      | false => .node none .leaf (Tr.set o n .leaf (i / 2 - 1))
  | n + 1, .node v l r, i =>
    match Nat.beq i 0 with
    | true => .node o l r
    | false =>
      match Nat.beq (i % 2) 1 with
      | true => .node v (Tr.set o n l (i / 2)) r
      | false => .node v l (Tr.set o n r (i / 2 - 1))

structure St where
  next : Nat
  /-- writes to blocks below 'mark' are noted in 'log' -/
  mark : Nat
  log : List Nat
  mem : Tr
  deriving Inhabited

def depth : Nat := 40
def most : Nat := 1000000000

abbrev R (α : Type) := Option α
def bad {α : Type} (_ : String) : R α := none
def want {α : Type} (_ : String) (o : Option α) : R α := o

def note (mark i : Nat) (l : List Nat) : List Nat :=
  match Nat.blt i mark with
  | true => if l.any (Nat.beq i) then l else i :: l
  | false => l
def St.get (σ : St) (i : Nat) : Option Ob :=
  match Nat.blt i most with
  | true => σ.mem.get i
  | false => none
def St.set (σ : St) (i : Nat) (o : Option Ob) : St := { next := σ.next, mark := σ.mark, log := note σ.mark i σ.log, mem := σ.mem.set o depth i }
def St.new (σ : St) (o : Ob) : R (Nat × St) :=
  match Nat.blt σ.next most with
  | true => pure (σ.next, { next := σ.next + 1, mark := σ.mark, log := σ.log, mem := σ.mem.set (some o) depth σ.next })
  | false => bad "too many blocks"

/-- what a computation that looks at nothing but the program comes to -/
def pv {α : Type} (P : Program) : Sem α → Option α
  | .pure a => some a
  | .program k => pv P (k P)
  | .mark _ k => pv P k
  | _ => none

def leaf : Value → Bool
  | .bool _ | .int _ _ | .float _ _ | .complex _ _ _ | .string _ => true
  | .pointer none | .slice none _ _ | .map none | .nilFunc | .nilIface => true
  | .func (.func _) first captured => first.size == 0 && captured.size == 0
  | _ => false
def flat1 : Value → Bool
  | .agg cs => cs.toList.all leaf
  | v => leaf v
def flat : Value → Bool
  | .tuple vs => vs.toList.all flat1
  | v => flat1 v

/-- `.chan none` is junk: of it nothing is known -/
def notJunk : Value → Bool
  | .chan none => false
  | _ => true
def isCell : Value → Bool
  | .agg _ | .tuple _ | .chan none => false
  | _ => true

def evalOp (tm : List Value) : Operand → Value
  | .tmp t => tm.getD t undef
  | .const v => v
  | .global g => .pointer (some ⟨g, 0, none⟩)
  | .func f => .func (.func f) #[] #[]

def aggT (P : Program) (t : TypeId) : R Bool :=
  match P.underlying t with
  | some (.struct _) | some (.array _ _) => pure true
  | some _ => pure false
  | none => bad "no type"
def sizeT (P : Program) (t : TypeId) : R Nat :=
  match P.info? t with
  | some i => pure i.size
  | none => bad "no type"
def zeroT (P : Program) (t : TypeId) : R Value :=
  match P.info? t with
  | some i =>
    match i.zero with
    | some z => if z.cells.toList.all leaf && Nat.beq z.cells.size i.size then pure z else bad "zero"
    | none => bad "zero"
  | none => bad "no type"

def sub (cs : List Value) (o n : Nat) : R (List Value) :=
  let l := (cs.drop o).take n
  match Nat.beq l.length n with
  | true => pure l
  | false => bad "cells out of the block"

def loadC (σ : St) (b o n : Nat) : R (List Value) :=
  match σ.get b with
  | some (.blk cs _ _) => sub cs o n
  | _ => bad "load: no block"

def storeC (σ : St) (b o : Nat) (vs : List Value) : R St :=
  match vs with
  | [] => pure σ
  | _ =>
  match σ.get b with
  | some (.blk cs u false) =>
    match Nat.ble (o + vs.length) cs.length && vs.all isCell with
    | true => pure (σ.set b (some (.blk (cs.take o ++ vs ++ cs.drop (o + vs.length)) u false)))
    | false => bad "store: out of the block, or no cell"
  | _ => bad "store: no block, or read only"

def loadV (P : Program) (σ : St) (t : TypeId) : Value → R Value
  | .pointer (some ⟨b, o, none⟩) => do
    if ← aggT P t then pure (.agg (← loadC σ b o (← sizeT P t)).toArray)
    else match ← loadC σ b o 1 with
      | [v] => pure v
      | _ => bad "load"
  | _ => bad "load: no address"

def storeV (P : Program) (σ : St) (t : TypeId) (a v : Value) : R St :=
  match a with
  | .pointer (some ⟨b, o, none⟩) => do
    let cs := v.cells.toList
    if Nat.beq cs.length (← sizeT P t) then storeC σ b o cs else bad "store: size"
  | _ => bad "store: no address"

def newP (σ : St) (cells : List Value) : R (Value × St) := do
  let (b, σ) ← σ.new (.blk cells 0 false)
  pure (.pointer (some ⟨b, 0, none⟩), σ)

def repeatL (z : List Value) : Nat → List Value
  | 0 => []
  | n + 1 => z ++ repeatL z n

def elemT (P : Program) (t : TypeId) : R TypeId :=
  match P.underlying t with
  | some (.slice e) => pure e
  | _ => bad "slice type"

def bytesT (P : Program) (t : TypeId) : R Nat :=
  match P.info? t with
  | some i => pure i.bytes
  | none => bad "no type"

/-- the cells that a slice or a string hands on -/
def srcCells (P : Program) (σ : St) (size n : Nat) : Value → R (List Value)
  | .slice (some ⟨b, o, none⟩) _ _ => if Nat.beq (n * size) 0 then pure [] else loadC σ b o (n * size)
  | .slice none _ _ => pure []
  | .string s => pure ((s.data.toList.take n).map fun b => .int .u8 b.toNat)
  | _ => bad "cells of what?"
def lenV : Value → R Nat
  | .slice _ n _ => pure n
  | .string s => pure s.size
  | _ => bad "len"

/-- is the row that grows forgotten? -/
def growS (σ : St) (base : Option Addr) (c size : Nat) : R St :=
  match base with
  | none => pure σ
  | some ⟨b, o, none⟩ =>
    match σ.get b with
    | some (.blk cs u false) =>
      if Nat.blt 0 u && Nat.beq (o + c * u) cs.length then
        if Nat.beq u size then pure (σ.set b none) else bad "append: another size"
      else pure σ
    | _ => bad "append: no block, or read only"
  | some _ => bad "append: spot"

def inPlace (σ : St) (base : Option Addr) (o : Nat) (vs : List Value) : R St :=
  match base with
  | none => pure σ
  | some ⟨b, p, none⟩ => storeC σ b (p + o) vs
  | some _ => bad "append: spot"

/-- 'append' of m elements whose cells are 'new' -/
def appendS (P : Program) (σ : St) (e : TypeId) (size : Nat) (base : Option Addr) (n c m : Nat) (new : List Value) : R (Value × St) :=
  if Nat.ble (n + m) c then do
    let σ ← inPlace σ base (n * size) new
    pure (.slice base (n + m) c, σ)
  else do
    let bytes ← bytesT P e
    let old ← srcCells P σ size n (.slice base n c)
    let _ ← zeroT P e
    if Nat.ble (n + m) most && Nat.ble bytes 4096 && Nat.blt 0 bytes && Nat.blt 0 size && (old ++ new).all isCell && Nat.beq (old ++ new).length ((n + m) * size) then do
      let σ ← growS σ base c size
      let (b, σ) ← σ.new (.blk (old ++ new) size false)
      pure (.slice (some ⟨b, 0, none⟩) (n + m) (n + m), σ)
    else bad "append: size"

def noInt (P : Program) (t : TypeId) : R Unit :=
  match P.underlying t with
  | some (.int _) => bad "append: make"
  | none => bad "no type"
  | _ => pure ()

def appendV (P : Program) (σ : St) (argTypes : Array TypeId) (args : Array Value) : R (Value × St) := do
  let sT ← want "append" argTypes[0]?
  let s ← want "append" args[0]?
  let x ← want "append" args[1]?
  let xT ← want "append" argTypes[1]?
  let e ← elemT P sT
  let size ← sizeT P e
  let _ ← noInt P xT
  let m ← lenV x
  let new ← srcCells P σ size m x
  match s with
  | .slice base n c => appendS P σ e size base n c m new
  | _ => bad "append: no slice"

def copyV (P : Program) (σ : St) (argTypes : Array TypeId) (args : Array Value) : R (Value × St) := do
  let dT ← want "copy" argTypes[0]?
  let d ← want "copy" args[0]?
  let x ← want "copy" args[1]?
  let e ← elemT P dT
  let size ← sizeT P e
  let k ← lenV x
  match d with
  | .slice base n _ => do
    let cells ← srcCells P σ size (Nat.min k n) x
    let σ ← inPlace σ base 0 cells
    pure (.int .i64 (Nat.min k n), σ)
  | _ => bad "copy"

def clearV (P : Program) (σ : St) (argTypes : Array TypeId) (args : Array Value) : R (Value × St) := do
  let dT ← want "clear" argTypes[0]?
  let d ← want "clear" args[0]?
  let e ← elemT P dT
  let z ← zeroT P e
  match d with
  | .slice base n _ => do
    let σ ← inPlace σ base 0 (repeatL z.cells.toList n)
    pure (.tuple #[], σ)
  | _ => bad "clear"

def addA (a : Addr) (n : Nat) : Addr := { block := a.block, off := a.off + n, spot := none }

def bound (x : Value) (y : Nat) : R Nat :=
  match x with
  | .int _ i => if decide (0 ≤ i) && decide (i ≤ (y : Int)) then pure i.toNat else bad "a slice's bound"
  | _ => bad "bound"

/-- may a row be cut by elements of this size? -/
def cutOK (σ : St) (b size : Nat) : Bool :=
  match σ.get b with
  | some (.blk _ u ro) => ro || Nat.beq u 0 || Nat.beq u size
  | _ => false

def boundO (x : Option Value) (y d : Nat) : R Nat :=
  match x with
  | some v => bound v y
  | none => pure d

def sliceV (P : Program) (σ : St) (t : TypeId) (x : Value) (low high max : Option Value) : R Value :=
  match P.underlying t, x with
  | some (.slice e), .slice a n c => do
    let m ← boundO max c c
    let h ← boundO high m n
    let l ← boundO low h 0
    let size ← sizeT P e
    if Nat.ble h m && Nat.ble l h && (max.isNone || high.isSome) then
      match a with
      | none => pure (.slice none (h - l) (m - l))
      | some a => if cutOK σ a.block size then pure (.slice (some (addA a (l * size))) (h - l) (m - l)) else bad "slice: another size"
    else bad "slice: bounds"
  | some (.array n e), .pointer (some a) => do
    let h ← boundO high n n
    let l ← boundO low h 0
    let size ← sizeT P e
    if max.isNone then pure (.slice (some (addA a (l * size))) (h - l) (n - l)) else bad "slice3 array"
  | _, _ => bad "slice"

def indexA (P : Program) (t : TypeId) (x i : Value) : R Value := do
  match P.underlying t, x, i with
  | some (.array n e), .pointer (some a), .int _ i => do
    if decide (0 ≤ i) && decide (i < (n : Int)) then pure (.pointer (some (addA a (i.toNat * (← sizeT P e))))) else bad "index out of range"
  | some (.slice e), .slice (some a) n _, .int _ i => do
    if decide (0 ≤ i) && decide (i < (n : Int)) then pure (.pointer (some (addA a (i.toNat * (← sizeT P e))))) else bad "index out of range"
  | _, _, _ => bad "indexAddr"

def fieldA (P : Program) (t : TypeId) (x : Value) (f : Nat) : R Value := do
  match P.underlying t, x with
  | some (.struct fs), .pointer (some a) => do
    let fd ← want "field" fs[f]?
    if Nat.beq (← sizeT P fd.type) 0 then bad "a field of no size" else pure (.pointer (some (addA a fd.offset)))
  | _, _ => bad "fieldAddr"

def partV (P : Program) (t : TypeId) (cs : List Value) (o : Nat) : R Value := do
  if ← aggT P t then pure (.agg (← sub cs o (← sizeT P t)).toArray)
  else match ← sub cs o 1 with
    | [v] => pure v
    | _ => bad "part"

def fieldV (P : Program) (t : TypeId) (x : Value) (f : Nat) : R Value := do
  match P.underlying t, x with
  | some (.struct fs), .agg cs => do
    let fd ← want "field" fs[f]?
    partV P fd.type cs.toList fd.offset
  | _, _ => bad "field"

def indexV (P : Program) (t : TypeId) (x i : Value) : R Value := do
  match P.underlying t, x, i with
  | some (.array n e), .agg cs, .int _ i =>
    if decide (0 ≤ i) && decide (i < (n : Int)) then do partV P e cs.toList (i.toNat * (← sizeT P e)) else bad "index out of range"
  | _, _, _ => bad "index"

def buildV (P : Program) (t : TypeId) (parts : List (Nat × Value)) : R Value := do
  let zero := (← zeroT P t).cells
  match P.underlying t with
  | some (.struct fs) => do
    let places ← fs.toList.mapM fun f => do pure (f.offset, ← sizeT P f.type)
    let cells ← want "build" (Instr.fill (places[·]?) zero parts)
    pure (.agg cells)
  | some (.array _ e) => do
    let size ← sizeT P e
    let cells ← want "build" (Instr.fill (fun i => some (i * size, size)) zero parts)
    pure (.agg cells)
  | _ => bad "build"

def buildS (P : Program) (σ : St) (t : TypeId) (len : Nat) (parts : List (Nat × Value)) : R (Value × St) := do
  let e ← elemT P t
  let size ← sizeT P e
  if Nat.ble (len * size) 16777216 then do
    let cells ← want "buildSlice" (Instr.fill (fun i => some (i * size, size)) (repeatL (← zeroT P e).cells.toList len).toArray parts)
    let (b, σ) ← σ.new (.blk cells.toList 0 false)
    pure (.slice (some ⟨b, 0, none⟩) len len, σ)
  else bad "buildSlice"

def makeS (P : Program) (σ : St) (t : TypeId) (l c : Value) : R (Value × St) := do
  let e ← elemT P t
  match l, c with
  | .int _ l, .int _ c =>
    if decide (0 ≤ l) && decide (l ≤ c) && decide (c ≤ (most : Int)) && Nat.ble (← bytesT P e) 4096 then do
      let (b, σ) ← σ.new (.blk (repeatL (← zeroT P e).cells.toList c.toNat) 0 false)
      pure (.slice (some ⟨b, 0, none⟩) l.toNat c.toNat, σ)
    else bad "makeSlice"
  | _, _ => bad "makeSlice"

def eqK (P : Program) (kT : TypeId) (a b : Value) : R Bool := want "==" (pv P (Op.equal kT a b))

def findA (P : Program) (kT : TypeId) (k : Value) : List (Value × Value) → Nat → R (Option (Nat × Value))
  | [], _ => pure none
  | (a, v) :: es, i => do
    if ← eqK P kT k a then pure (some (i, v)) else findA P kT k es (i + 1)
def findV (P : Program) (kT : TypeId) (k : Value) (es : List (Value × Value)) : R (Option (Nat × Value)) :=
  match P.underlying kT with
  | some (.int i) => want "find" (Instr.findNow (.int i) k (es.map fun (a, v) => ⟨a, v, 0⟩) 0)
  | some (.string) => want "find" (Instr.findNow .string k (es.map fun (a, v) => ⟨a, v, 0⟩) 0)
  | some (.struct _) => findA P kT k es 0
  | _ => bad "find"

def mapT (P : Program) (t : TypeId) : R (TypeId × TypeId) :=
  match P.underlying t with
  | some (.map k e) => pure (k, e)
  | _ => bad "map type"

def rowsOf (σ : St) (x : Value) : R (List (Value × Value)) :=
  match x with
  | .map none => pure []
  | .map (some r) => match σ.get r with | some (.mp es) => pure es | _ => bad "a map: no map"
  | _ => bad "a map"

def foundV (P : Program) (e : TypeId) (ok : Bool) (r : Option (Nat × Value)) : R Value :=
  match r with
  | some (_, v) => pure (if ok then .tuple #[v, .bool true] else v)
  | none => do
    let z ← zeroT P e
    pure (if ok then .tuple #[z, .bool false] else z)

def lookupV (P : Program) (σ : St) (t : TypeId) (x k : Value) (ok : Bool) : R Value := do
  let (kT, e) ← mapT P t
  let es ← rowsOf σ x
  let _ ← want "a key" (pv P (Instr.checkKey es.isEmpty 10000 kT k))
  if flat1 k then do
    let r ← findV P kT k es
    foundV P e ok r
  else bad "a key"

def setRow (σ : St) (r : Nat) (es : List (Value × Value)) (k v : Value) (f : Option (Nat × Value)) : R St :=
  match f with
  | some (i, _) =>
    match es[i]? with
    | some (k0, _) => if Instr.sameBits 10000 k0 k then pure (σ.set r (some (.mp (es.set i (k, v))))) else bad "map: which key"
    | none => bad "map: no row"
  | none => pure (σ.set r (some (.mp (es ++ [(k, v)]))))

def updateV (P : Program) (σ : St) (t : TypeId) (x k v : Value) : R St := do
  let (kT, _) ← mapT P t
  match x with
  | .map (some r) => do
    let es ← rowsOf σ x
    let _ ← want "a key" (pv P (Instr.checkKey false 10000 kT k))
    if flat1 k then do
      let f ← findV P kT k es
      setRow σ r es k v f
    else bad "a key"
  | _ => bad "update"

def nilEq (P : Program) (t : TypeId) (x y : Value) : Option Bool :=
  match P.underlying t, x, y with
  | some (.pointer _), .pointer (some _), .pointer none | some (.pointer _), .pointer none, .pointer (some _) => some false
  | some (.slice _), .slice (some _) _ _, .slice none _ _ | some (.slice _), .slice none _ _, .slice (some _) _ _ => some false
  | some (.map _ _), .map (some _), .map none | some (.map _ _), .map none, .map (some _) => some false
  | some (.func _ _ _), .func .., .nilFunc | some (.func _ _ _), .nilFunc, .func .. => some false
  | _, _, _ => none

inductive Ne where
  | val (v : Value)
  | skip
  | enter (f : FuncId) (args : List Value)

def enterV (P : Program) (f : FuncId) (args : List Value) : R Ne :=
  match P.funcs[f]? with
  | some fn => if fn.body.isSome && !(fn.name == "runtime.NumGoroutine") then pure (.enter f args) else bad ("no body: " ++ fn.name)
  | none => bad "no function"

def v1 (r : R (Value × St)) : R (Ne × St) := do let (v, σ) ← r; pure (.val v, σ)
def v0 (σ : St) (r : R Value) : R (Ne × St) := do pure (.val (← r), σ)
def vs (r : R St) : R (Ne × St) := do pure (.skip, ← r)

/-- what is told of operations on symbols -/
class Orc where
  orc : Oper → (Operand → Value) → Option Value
/-- a cell of which only its number is known -/
def isSym : Value → Bool
  | .chan (some _) => true
  | _ => false

variable [Orc]
/-- an operation that looks at nothing but the program and its operands, which hold no address -/
def plainV (P : Program) (σ : St) (ρ : Operand → Value) (o : Oper) : R (Ne × St) :=
  if o.op.operands.toList.all fun x => flat (ρ x) then
    match pv P (execOp ρ o) with
    | some (.value v) => if flat v then pure (.val v, σ) else bad "plain: an address"
    | _ => bad "plain: more than a value"
  else
    match Orc.orc o ρ with
    | some v => if flat v || isSym v then pure (.val v, σ) else bad "plain: told what is no cell"
    | none => bad "plain: an operand with an address"

def builtinV (P : Program) (σ : St) (ρ : Operand → Value) (o : Oper) (c : Call) (b : Builtin) : R (Ne × St) :=
  let args := c.args.map ρ
  match b with
  | .append => v1 (appendV P σ c.argTypes args)
  | .copy => v1 (copyV P σ c.argTypes args)
  | .clear => v1 (clearV P σ c.argTypes args)
  | .len =>
    match ((c.argTypes[0]?).bind fun t => P.underlying t : Option TypeDesc), (args[0]? : Option Value) with
    | some (.slice _), some (.slice _ n _) => pure (.val (.int .i64 n), σ)
    | some (.map _ _), some (.map (some r)) => match σ.get r with | some (.mp es) => pure (.val (.int .i64 es.length), σ) | _ => bad "len: no map"
    | some (.array n _), some _ => pure (.val (.int .i64 n), σ)
    | _, _ => plainV P σ ρ o
  | .cap => bad "cap"
  | _ => plainV P σ ρ o

def bytesOf (cs : List Value) : R (List UInt8) :=
  match cs with
  | [] => pure []
  | .int .u8 n :: r => do pure (UInt8.ofNat n.toNat :: (← bytesOf r))
  | _ => bad "bytes"

def strCells (σ : St) (b off n : Nat) : R (List Value) := if Nat.beq n 0 then pure [] else loadC σ b off n

def convertV (P : Program) (σ : St) (ρ : Operand → Value) (o : Oper) (src dst : TypeId) (x : Value) : R (Ne × St) := do
  match P.underlying src, P.underlying dst, x with
  | some (.string), some (.slice e), .string s => do
    match P.underlying e with
    | some (.int .u8) => do
      let (b, σ) ← σ.new (.blk (s.data.toList.map fun b => .int .u8 b.toNat) 1 false)
      pure (.val (.slice (some ⟨b, 0, none⟩) s.size s.size), σ)
    | _ => bad "convert"
  | some (.slice e), some (.string), .slice (some ⟨b, off, none⟩) n _ => do
    match P.underlying e with
    | some (.int .u8) => do
      let cs ← strCells σ b off n
      let l ← bytesOf cs
      pure (.val (.string ⟨l.toArray⟩), σ)
    | _ => bad "convert"
  | _, _, _ => plainV P σ ρ o

def opV (P : Program) (σ : St) (ρ : Operand → Value) (o : Oper) : R (Ne × St) :=
  match o.op with
  | .move x | .assign x => pure (.val (ρ x), σ)
  | .pick c a b => match ρ c with | .bool t => pure (.val (if t then ρ a else ρ b), σ) | _ => bad "pick"
  | .alloc e => v1 (do newP σ (← zeroT P e).cells.toList)
  | .box _ x => if notJunk (ρ x) then v1 (newP σ (ρ x).cells.toList) else bad "junk"
  | .build t ps => if ps.toList.all (fun (_, x) => notJunk (ρ x)) then v0 σ (buildV P t (ps.toList.map fun (i, x) => (i, ρ x))) else bad "junk"
  | .buildSlice t n ps => if ps.toList.all (fun (_, x) => notJunk (ρ x)) then v1 (buildS P σ t n (ps.toList.map fun (i, x) => (i, ρ x))) else bad "junk"
  | .load t a => v0 σ (loadV P σ t (ρ a))
  | .store t a x => vs (storeV P σ t (ρ a) (ρ x))
  | .nilCheck x => match ρ x with
    | .pointer (some a) => pure (.val (.pointer (some a)), σ)
    | .func (.func f) a b => pure (.val (.func (.func f) a b), σ)
    | _ => bad "nil"
  | .binOp b t x y _ =>
    match b, nilEq P t (ρ x) (ρ y) with
    | .eql, some r => pure (.val (.bool r), σ)
    | .neq, some r => pure (.val (.bool !r), σ)
    | _, _ => plainV P σ ρ o
  | .convert s d x => convertV P σ ρ o s d (ρ x)
  | .makeFunc (.func f) a b => pure (.val (.func (.func f) (a.map ρ) (b.map ρ)), σ)
  | .makeMap _ none => v1 (do let (b, σ) ← σ.new (.mp []); pure (.map (some b), σ))
  | .makeSlice t l c => v1 (makeS P σ t (ρ l) (ρ c))
  | .slice t x l h m => match ρ x with
    | .string _ => plainV P σ ρ o
    | x => v0 σ (sliceV P σ t x (l.map ρ) (h.map ρ) (m.map ρ))
  | .fieldAddr t x f => v0 σ (fieldA P t (ρ x) f)
  | .field t x f => v0 σ (fieldV P t (ρ x) f)
  | .indexAddr t x i => v0 σ (indexA P t (ρ x) (ρ i))
  | .index t x i => match ρ x with
    | .string _ => plainV P σ ρ o
    | x => v0 σ (indexV P t x (ρ i))
  | .lookup t x i ok => v0 σ (lookupV P σ t (ρ x) (ρ i) ok)
  | .mapUpdate t m k x | .insert t m k x => vs (updateV P σ t (ρ m) (ρ k) (ρ x))
  | .extract t i => match ρ t with
    | .tuple xs => v0 σ (want "extract" xs[i]?)
    | _ => bad "extract"
  | .call c =>
    match c.callee with
    | .builtin b => builtinV P σ ρ o c b
    | .value f => match ρ f with
      | .func (.func g) first captured => do pure (← enterV P g (first.toList ++ (c.args.map ρ).toList ++ captured.toList), σ)
      | _ => bad "call: no function"
    | .invoke _ _ => bad "invoke"
  | .unOp .. => plainV P σ ρ o
  | _ => bad "an operation that isn't known"

inductive Ex where
  | normal
  | exit (id : Nat)
  | goto (l : Nat)
  | ret
  deriving Inhabited

def wantedV (ops : Array Oper) (tm : List Value) (o : Oper) : Option Bool :=
  match o.guard with
  | none => some true
  | some (j, b) =>
    match ((ops[j]?).bind (·.dst)).bind (tm[·]?) with
    | some (.bool c) => some (c == b)
    | some (.chan none) => none
    | _ => some false

def putV (tm : List Value) (d : Option Tmp) (v : Value) : List Value :=
  match d with
  | some d => tm.set d v
  | none => tm

/-- a literal that holds no address, a variable that there is -/
def okX (P : Program) : Operand → Bool
  | .const v => flat v
  | .global g => Nat.blt g P.globals.size
  | _ => true

def stepV (P : Program) (call : FuncId → List Value → St → R (Value × St)) (ops : Array Oper) (o : Oper) (tm : List Value) (σ : St) : R (List Value × St) :=
  match wantedV ops tm o with
  | none => bad "a guard of junk"
  | some false => pure (putV tm o.dst undef, σ)
  | some true =>
    if o.op.operands.toList.all (okX P) then do
      let (ne, σ) ← opV P σ (evalOp tm) o
      match ne with
      | .val v => pure (putV tm o.dst v, σ)
      | .skip => pure (putV tm o.dst undef, σ)
      | .enter f args => do
        let (v, σ) ← call f args σ
        pure (putV tm o.dst v, σ)
    else bad "an operand"

def opsV (P : Program) (call : FuncId → List Value → St → R (Value × St)) (ops : Array Oper) : List Oper → List Value → St → R (List Value × St)
  | [], tm, σ => pure (tm, σ)
  | o :: rest, tm, σ => do
    let (tm, σ) ← stepV P call ops o tm σ
    opsV P call ops rest tm σ

/-- an operation that neither looks at memory nor turns it -/
def pureOp (P : Program) : Op → Bool
  | .move _ | .assign _ | .pick .. | .fieldAddr .. | .field .. | .binOp .. | .unOp .. | .indexAddr .. | .index .. | .nilCheck _ | .makeFunc .. | .extract .. | .build .. => true
  | .slice t _ _ _ _ => match P.underlying t with | some (.string) => true | _ => false
  | .convert s d _ =>
    match P.underlying s, P.underlying d with
    | some (.string), some (.slice _) | some (.slice _), some (.string) => false
    | _, _ => true
  | .call { callee := .builtin b, argTypes, .. } =>
    match b with
    | .real | .imag | .complex | .min | .max => true
    | .len => match (argTypes[0]?).bind fun t => P.underlying t with | some (.map _ _) => false | _ => true
    | _ => false
  | _ => false

/-- which operations stand ahead of which: a number's bits -/
def befOf (ops : Array Oper) : List Oper → List Nat → List Nat
  | [], acc => acc
  | o :: rest, acc =>
    befOf ops rest (acc ++ [o.after.toList.foldl (fun s e => if Region.binds .any e && Nat.blt e.on acc.length then Nat.lor (Nat.lor s (2 ^ e.on)) (acc.getD e.on 0) else s) 0])
def ahead (bef : List Nat) (i j : Nat) : Bool := Nat.beq ((bef.getD j 0 / 2 ^ i) % 2) 1
def readsOf (ops : Array Oper) (o : Oper) : List Tmp :=
  (o.op.operands.toList.filterMap fun | .tmp t => some t | _ => none) ++
  (match o.guard with | some (j, _) => ((ops[j]?).bind (·.dst)).toList | none => [])
/-- each slot is written once; who reads it stands ahead of its writer or behind it, by an edge -/
def slotsOK (ops : Array Oper) (bef : List Nat) : Bool :=
  ops.toList.zipIdx.all fun (p, i) =>
    match p.dst with
    | none => true
    | some d => ops.toList.zipIdx.all fun (o, j) =>
      Nat.beq i j ||
      ((match o.dst with | some d' => !(Nat.beq d d') | none => true) &&
       (!((readsOf ops o).any fun t => Nat.beq t d) || (if Nat.blt i j then ahead bef i j else ahead bef j i)))
/-- the loud operations, with their places -/
def loudOf (P : Program) (ops : Array Oper) : List (Oper × Nat) := ops.toList.zipIdx.filter fun (o, _) => !pureOp P o.op
/-- who stands ahead of an operation stands ahead of it in the text -/
def edgesOK (ops : Array Oper) : Bool :=
  ops.toList.zipIdx.all fun (o, i) => o.after.toList.all fun e => !Region.binds .any e || Nat.blt e.on i

/-- the block that an address lies in, as far as the slots tell it ahead of the region -/
def blockAt (ops : Array Oper) (tm : List Value) : Nat → Operand → Option Nat
  | 0, _ => none
  | n + 1, .tmp t =>
    match ops.toList.find? fun o => match o.dst with | some d => Nat.beq d t | none => false with
    | none => match tm.getD t undef with | .pointer (some a) => some a.block | _ => none
    | some o =>
      match o.op with
      | .fieldAddr _ x _ | .move x | .nilCheck x => blockAt ops tm n x
      | _ => none
  | _, _ => none
/-- the stores of a region, whose blocks can be told ahead of it: places and blocks -/
def storesOf (ops : Array Oper) (tm : List Value) : List (Nat × Nat) :=
  ops.toList.zipIdx.filterMap fun (o, k) =>
    match o.op with
    | .store _ a _ => (blockAt ops tm 20 a).map fun b => (k, b)
    | _ => none

def hideAll (t : Tr) : List Nat → Tr
  | [] => t
  | b :: r => hideAll (t.set none depth b) r
def layBack (t0 t : Tr) : List Nat → Tr
  | [] => t
  | b :: r => layBack t0 (match t0.get b with | some o => t.set (some o) depth b | none => t) r
def noteAll (mark : Nat) (m l : List Nat) : List Nat := m.foldl (fun l i => note mark i l) l

/-- the block that a plain load looks at -/
def loadsAt (tm : List Value) : Op → Option Nat
  | .load _ a => match evalOp tm a with | .pointer (some a) => some a.block | _ => none
  | .slice _ x _ _ _ => match evalOp tm x with | .slice (some a) _ _ => some a.block | _ => none
  | _ => none

structure Dr where
  /-- who wrote which old blocks -/
  wr : List (Nat × List Nat)
  /-- which loud operations were, and what a plain load looked at -/
  ld : List (Nat × Option Nat)

/-- the blocks that are hidden from the operation at the place k: what operations wrote, or will write, that stand neither ahead of it nor behind it -/
def hidden (bef : List Nat) (pre : List (Nat × Nat)) (wr : List (Nat × List Nat)) (k : Nat) : List Nat :=
  ((wr.filter fun (i, _) => !ahead bef i k).flatMap (·.2)) ++ ((pre.filter fun (i, _) => Nat.blt k i && !ahead bef k i).map (·.2))

/-- what the operation at the place k wrote was foretold, or nobody who might come behind it has looked at it -/
def writesOK (bef : List Nat) (pre : List (Nat × Nat)) (ld : List (Nat × Option Nat)) (k : Nat) (m : List Nat) : Bool :=
  (m.all fun b => pre.any fun (i, c) => Nat.beq i k && Nat.beq b c) ||
  (ld.all fun (j, l) => ahead bef j k || (match l with | some b => !(m.any (Nat.beq b)) | none => false))

/-- one operation of a region that draws its order -/
def drawOne (P : Program) (call : FuncId → List Value → St → R (Value × St)) (ops : Array Oper) (bef : List Nat) (pre : List (Nat × Nat)) (o : Oper) (k : Nat) (tm : List Value) (σ : St) (d : Dr) :
    R (List Value × St × Dr) :=
  if pureOp P o.op then do
    let (tm, σ) ← stepV P call ops o tm σ
    pure (tm, σ, d)
  else do
    let h := hidden bef pre d.wr k
    let (tm', σ') ← stepV P call ops o tm { next := σ.next, mark := σ.next, log := [], mem := hideAll σ.mem h }
    if writesOK bef pre d.ld k σ'.log then
      pure (tm', { next := σ'.next, mark := σ.mark, log := noteAll σ.mark σ'.log σ.log, mem := layBack σ.mem σ'.mem h },
        { wr := if σ'.log.isEmpty then d.wr else (k, σ'.log) :: d.wr, ld := (k, loadsAt tm o.op) :: d.ld })
    else bad ("a draw with a write at " ++ o.pos)

def drawTo (P : Program) (call : FuncId → List Value → St → R (Value × St)) (ops : Array Oper) (bef : List Nat) (pre : List (Nat × Nat)) (tm : List Value) (σ : St) : Nat → R (List Value × St × Dr)
  | 0 => pure (tm, σ, ⟨[], []⟩)
  | k + 1 => do
    let (tm, σ, d) ← drawTo P call ops bef pre tm σ k
    match ops[k]? with
    | some o => drawOne P call ops bef pre o k tm σ d
    | none => bad "no operation"

def regionV (P : Program) (call : FuncId → List Value → St → R (Value × St)) (ops : Array Oper) (draw : Bool) (tm : List Value) (σ : St) : R (List Value × St) :=
  if draw then
    let bef := befOf ops ops.toList []
    if slotsOK ops bef && edgesOK ops && Nat.ble σ.mark σ.next then do
      let (tm, σ, _) ← drawTo P call ops bef ((storesOf ops tm).filter fun (_, b) => Nat.blt b σ.next) tm σ ops.size
      pure (tm, σ)
    else bad ("a draw out of form " ++ (match ops[0]? with | some o => o.pos | none => ""))
  else opsV P call ops ops.toList tm σ

def resultV (P : Program) (σ : St) (tm : List Value) : ResultVar → R Value
  | .tmp t => pure (tm.getD t undef)
  | .cell a t => loadV P σ t (tm.getD a undef)

def resultsV (P : Program) (fn : Func) (σ : St) (tm : List Value) : R Value := do
  let vs ← fn.results.toList.mapM (resultV P σ tm)
  match vs with
  | [v] => pure v
  | vs => pure (.tuple vs.toArray)

def callV (P : Program) (ov : FuncId → Option (List Value → St → R (Value × St))) (run : Code → List Value → St → R (Ex × List Value × St)) (f : FuncId) (args : List Value) (σ : St) : R (Value × St) := do
  match ov f with
  | some g => g args σ
  | none => do
  let fn ← want "no function" P.funcs[f]?
  let c ← want "no body" fn.body
  let (e, tm, σ) ← run c (args ++ List.replicate (fn.ntmps - args.length) undef) σ
  match e with
  | .normal | .ret => do pure (← resultsV P fn σ tm, σ)
  | _ => bad "a jump out of a function"

def runV (P : Program) (ov : FuncId → Option (List Value → St → R (Value × St))) : Nat → Option Code → Code → List Value → St → R (Ex × List Value × St)
  | 0, _, _, _, _ => bad "fuel"
  | n + 1, some a, c, tm, σ => do
    let (e, tm, σ) ← runV P ov n none c tm σ
    match e with
    | .goto l =>
      match findLabel a l with
      | some rest => runV P ov n (some a) rest tm σ
      | none => pure (.goto l, tm, σ)
    | e => pure (e, tm, σ)
  | n + 1, none, c, tm, σ =>
    match c with
    | .skip | .label _ => pure (.normal, tm, σ)
    | .region _ ops draw => do
      let (tm, σ) ← regionV P (callV P ov (runV P ov n none)) ops draw tm σ
      pure (.normal, tm, σ)
    | .seq a b => do
      let (e, tm, σ) ← runV P ov n none a tm σ
      match e with
      | .normal => runV P ov n none b tm σ
      | e => pure (e, tm, σ)
    | .cond x a b =>
      match evalOp tm x with
      | .bool true => runV P ov n none a tm σ
      | .bool false => runV P ov n none b tm σ
      | _ => bad "cond"
    | .block id a => do
      let (e, tm, σ) ← runV P ov n none a tm σ
      match e with
      | .exit i => if Nat.beq i id then pure (.normal, tm, σ) else pure (.exit i, tm, σ)
      | e => pure (e, tm, σ)
    | .loop a => do
      let (e, tm, σ) ← runV P ov n none a tm σ
      match e with
      | .normal => runV P ov n none (.loop a) tm σ
      | e => pure (e, tm, σ)
    | .exit id => pure (.exit id, tm, σ)
    | .goto l => pure (.goto l, tm, σ)
    | .ret => pure (.ret, tm, σ)
    | .scope a => runV P ov n (some a) a tm σ
    | _ => bad "code"

end Go.Proofs.Ytkghejleififiaa.AS
