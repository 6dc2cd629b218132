/- D: the compiler from the model's code. -/
import Derived.Test.YtfdplefijefeiaaGreatDoorZ1
namespace Go.Dx
open Go

def valD : Nat → Value → Option DV
  | 0, _ => none
  | n + 1, v => match v with
    | .bool b => some (.bool b)
    | .int k i => some (.int k i)
    | .string s => some (.str s.data.toList)
    | .pointer none => some .nilPtr
    | .slice none 0 0 => some .nilSlice
    | .map none => some .nilMap
    | .func fn a b => match a.toList.mapM (valD n), b.toList.mapM (valD n) with
      | some a, some b => some (.func fn a b)
      | _, _ => none
    | .nilFunc => some .nilFunc
    | .iface t v => (valD n v).map (.iface t)
    | .nilIface => some .nilIface
    | .agg cs => (cs.toList.mapM (valD n)).map .agg
    | .tuple cs => (cs.toList.mapM (valD n)).map .tuple
    | _ => none

def opdD (P : Program) : Operand → Option Opd
  | .tmp n => some (.t n)
  | .const v => (valD 4 v).map .c
  | .global g => if g < P.globals.size then some (.c (.ptr g 0)) else none
  | .func f => some (.c (.func (.func f) [] []))
def opdsD (P : Program) (xs : Array Operand) : Option (List Opd) := xs.toList.mapM (opdD P)
def opdO (P : Program) : Option Operand → Option (Option Opd)
  | none => some none
  | some x => (opdD P x).map some

def isAggT (P : Program) (t : TypeId) : Bool := match P.underlying t with | some (.struct _) | some (.array ..) => true | _ => false
def sizeT (P : Program) (t : TypeId) : Option Nat := (P.info? t).map (·.size)
def zeroT (P : Program) (t : TypeId) : Option DV := (P.info? t).bind fun i => i.zero.bind (valD 4)

def etyD (P : Program) : Nat → TypeId → Option ETy
  | 0, _ => none
  | n' + 1, t => match P.underlying t with
    | some .bool => some (.prim 0)
    | some (.int _) => some (.prim 1)
    | some .string => some (.prim 2)
    | some (.pointer e) => match sizeT P e with | some 0 => none | some _ => some .ptr | none => none
    | some (.interface ms) => some (.iface (!ms.isEmpty))
    | some (.slice _) => some (.ref 0)
    | some (.map ..) => some (.ref 1)
    | some (.func ..) => some (.ref 2)
    | some (.array k e) => do
      let n ← sizeT P e
      let x ← etyD P n' e
      pure (.struct ((List.range k).map fun i => (i * n, n, isAggT P e, x)))
    | some (.struct fs) => if P.stoodInHeld t then none else
      ((fs.toList.filter fun (f : Field) => f.name != "_").mapM fun (f : Field) => do pure (f.offset, ← sizeT P f.type, isAggT P f.type, ← etyD P n' f.type)).map .struct
    | _ => none

def isConstO : Operand → Bool
  | .const _ => true
  | _ => false

def partsD (P : Program) (t : TypeId) (ps : Array (Nat × Operand)) : Option (List (Nat × Nat × Opd)) :=
  match P.underlying t with
  | some (.struct fs) => match fs.toList.mapM (fun (f : Field) => (P.info? f.type).map fun i => (f.offset, i.size)) with
    | none => none
    | some places => ps.toList.mapM fun q => match places[q.1]? with
      | none => none
      | some p => match opdD P q.2 with
        | none => none
        | some x => some (p.1, p.2, x)
  | some (.array _ e) => match sizeT P e with
    | none => none
    | some n => ps.toList.mapM fun q => match opdD P q.2 with
      | none => none
      | some x => some (q.1 * n, n, x)
  | _ => none

def callD' (P : Program) (c : Call) : Option DOp :=
  match c.callee with
  | .value (.func f) => (opdsD P c.args).map (.callF f)
  | .value x => do pure (.callV (← opdD P x) (← opdsD P c.args))
  | .invoke x name => do pure (.callM (← opdD P x) name (← opdsD P c.args))
  | .builtin _ => none

def primKey (P : Program) (t : TypeId) : Option Bool :=
  match P.underlying t with
  | some (.map k _) => match P.underlying k with | some (.int _) => some false | some .string => some true | _ => none
  | _ => none
def elemZero (P : Program) (t : TypeId) : Option DV :=
  match P.underlying t with | some (.map _ e) => zeroT P e | _ => none

def bsliceD (P : Program) (n : Nat) (i : TypeInfo) (z : DV) (ps : Array (Nat × Operand)) : Option DOp :=
  if z.cells.length = i.size ∧ n * i.size ≤ 16777216 then
    match ps.toList.mapM (fun q => (match opdD P q.2 with | none => none | some x => some (q.1 * i.size, i.size, x))) with
    | some parts => some (.buildSlice n (List.replicate n z.cells).flatten parts)
    | none => none
  else none
def builtinD (P : Program) (b : Builtin) (c : Call) : Option DOp := do
  match b, c.args.toList with
  | .len, [x] => match P.underlying (← c.argTypes[0]?) with
    | some .string => pure (.lenStr (← opdD P x))
    | some (.slice _) => pure (.lenSl (← opdD P x))
    | some (.map ..) => pure (.lenMap (← opdD P x))
    | some (.array n _) => pure (.lenArr n)
    | some (.pointer a) => match P.underlying a with
      | some (.array n _) => pure (.lenArr n)
      | _ => none
    | _ => none
  | .append, [x, y] => match P.underlying (← c.argTypes[0]?) with
    | some (.slice e) => match P.underlying (← c.argTypes[1]?) with
      | some (.slice _) | some .string => match P.info? e, zeroT P e with
        | some i, some z => if z.cells.length = i.size then do pure (.append i.size i.bytes [] (← opdD P x) (← opdD P y)) else none
        | _, _ => none
      | _ => none
    | _ => none
  | .copy, [x, y] => match P.underlying (← c.argTypes[0]?) with
    | some (.slice e) => pure (.copy (← sizeT P e) (← opdD P x) (← opdD P y))
    | _ => none
  | .delete, [m, k] => pure (.delete (← primKey P (← c.argTypes[0]?)) (← opdD P m) (← opdD P k))
  | .cap, [x] => match P.underlying (← c.argTypes[0]?) with
    | some (.slice _) => pure (.capSl (← opdD P x))
    | _ => none
  | .clear, [x] => match P.underlying (← c.argTypes[0]?) with
    | some (.map ..) => pure (.clearMap (← opdD P x))
    | _ => none
  | .max, xs => pure (.minmax true (← xs.mapM (opdD P)))
  | .min, xs => pure (.minmax false (← xs.mapM (opdD P)))
  | _, _ => none

def opC (P : Program) (o : Oper) : Option DOp := do
  match o.op with
  | .move x | .assign x => pure (.mov (← opdD P x))
  | .pick c a b => pure (.pick (← opdD P c) (← opdD P a) (← opdD P b))
  | .alloc e => pure (.alloc (← zeroT P e).cells)
  | .box _ x => pure (.box (← opdD P x))
  | .build t ps => pure (.build (← zeroT P t).cells (← partsD P t ps))
  | .buildSlice t n ps => match P.underlying t with
    | some (.slice e) => match P.info? e, zeroT P e with
      | some i, some z => bsliceD P n i z ps
      | _, _ => none
    | _ => none
  | .load t a => match P.underlying t with
    | none => none
    | some _ => if isAggT P t then do pure (.loadN (← sizeT P t) (← opdD P a)) else do pure (.load1 (← opdD P a))
  | .store t a v => pure (.store (← sizeT P t) (← opdD P a) (← opdD P v))
  | .nilCheck x => pure (.nilCheck (← opdD P x))
  | .binOp op t x y _ => match op with
    | .eql | .neq => do
      match P.underlying t with
      | some (.int _) | some .string => pure (.bin op (← opdD P x) (← opdD P y))
      | some (.interface ms) => pure (.eqv (op == .neq) (.iface (!ms.isEmpty && !isConstO x && !isConstO y)) (← opdD P x) (← opdD P y))
      | _ => if P.eqGuardType P.depth t then none else pure (.eqv (op == .neq) (← etyD P 8 t) (← opdD P x) (← opdD P y))
    | _ => pure (.bin op (← opdD P x) (← opdD P y))
  | .unOp op _ x => pure (.un op (← opdD P x))
  | .convert s d x => match P.underlying s, P.underlying d with
    | some (.int _), some (.int k) => do pure (.convInt k (← opdD P x))
    | some .string, some .string => do pure (.movStr (← opdD P x))
    | some .string, some (.slice e) => match P.underlying e with
      | some (.int .u8) => do pure (.strBytes (← opdD P x))
      | _ => none
    | some (.slice e), some .string => match P.underlying e with
      | some (.int .u8) => do pure (.bytesStr (← opdD P x))
      | _ => none
    | some (.slice e), some (.slice _) => match P.underlying e, s == d with
      | some (.int .u8), true => do pure (.strish (← opdD P x))
      | _, _ => none
    | _, _ => none
  | .makeInterface t x => match P.underlying t with
    | some (.interface _) => none
    | some _ => do pure (.mkIface t (← opdD P x))
    | none => none
  | .makeFunc fn a b => pure (.mkFunc fn (← opdsD P a) (← opdsD P b))
  | .makeMap _ none => pure .mkMap
  | .makeSlice t l c => match P.underlying t with
    | some (.slice e) => match P.info? e with
      | some i => do pure (.mkSlice (← zeroT P e).cells i.size i.bytes (← opdD P l) (← opdD P c))
      | none => none
    | _ => none
  | .slice t x lo hi mx => match P.underlying t with
    | some .string => do if mx.isSome then none else pure (.sliceStr (← opdD P x) (← opdO P lo) (← opdO P hi))
    | some (.slice e) => match hi, mx with
      | some hi, some mx => do pure (.sliceSl (← sizeT P e) (← opdD P x) (← opdO P lo) (some (← opdD P hi)) (some (← opdD P mx)))
      | hi, none => do pure (.sliceSl (← sizeT P e) (← opdD P x) (← opdO P lo) (← opdO P hi) none)
      | none, some _ => none
    | some (.array n e) => do if mx.isSome then none else pure (.sliceArr n (← sizeT P e) (← opdD P x) (← opdO P lo) (← opdO P hi))
    | some (.pointer a) => match P.underlying a with
      | some (.array n e) => do if mx.isSome then none else pure (.sliceArr n (← sizeT P e) (← opdD P x) (← opdO P lo) (← opdO P hi))
      | _ => none
    | _ => none
  | .fieldAddr t x f => match P.underlying t with
    | some (.struct fs) => do
      let f ← fs[f]?
      if (← sizeT P f.type) = 0 then none else pure (.fieldAddr f.offset (← opdD P x))
    | _ => none
  | .field t x f => match P.underlying t with
    | some (.struct fs) => do
      let f ← fs[f]?
      let _ ← P.underlying f.type
      pure (.field f.offset (← sizeT P f.type) (isAggT P f.type) (← opdD P x))
    | _ => none
  | .indexAddr t x i => match P.underlying t with
    | some (.array n e) => do pure (.indexAddrA n (← sizeT P e) (← opdD P x) (← opdD P i))
    | some (.slice e) => do pure (.indexAddrS (← sizeT P e) (← opdD P x) (← opdD P i))
    | _ => none
  | .index t x i => match P.underlying t with
    | some .string => do pure (.indexStr (← opdD P x) (← opdD P i))
    | some (.array n e) => do
      let _ ← P.underlying e
      pure (.indexArr n (← sizeT P e) (isAggT P e) (← opdD P x) (← opdD P i))
    | _ => none
  | .lookup t m k ok => do pure (.lookup (← primKey P t) (← elemZero P t) (← opdD P m) (← opdD P k) ok)
  | .mapUpdate t m k v | .insert t m k v => do pure (.mapUpdate (← primKey P t) (← opdD P m) (← opdD P k) (← opdD P v))
  | .range t x => match P.underlying t with
    | some .string => do pure (.rangeStr (← opdD P x))
    | some (.map ..) => do pure (.rangeMap (← opdD P x))
    | _ => none
  | .next it s => do if s then pure (.nextStr (← opdD P it)) else pure (.nextMap (← opdD P it))
  | .entry it => pure (.entry (← opdD P it))
  | .typeAssert x _ t ok => match P.underlying t with
    | some (.interface _) => match zeroT P t with
      | some .nilIface => do pure (.assertI (← opdD P x) t ok)
      | _ => none
    | some _ => do pure (.assertC (← opdD P x) t ok (← zeroT P t))
    | none => none
  | .extract x i => pure (.extract (← opdD P x) i)
  | .call c => match c.callee with
    | .builtin b => builtinD P b c
    | _ => callD' P c
  | .panic _ => pure .fail
  | _ => none

def operC (P : Program) (ops : Array Oper) (o : Oper) : Option DOper := do
  let g ← match o.guard with
    | none => some none
    | some (j, b) => ((ops[j]?).bind (·.dst)).map fun d => some (d, b)
  pure ⟨o.dst, g, ← opC P o⟩

def codeC (P : Program) : Code → Option DCode
  | .skip => some .skip
  | .region _ ops draw => (ops.toList.mapM (operC P ops)).map fun l => if draw then .draw (l.map fun x => (x, .alone 0)) else .region l
  | .seq a b => do pure (.seq (← codeC P a) (← codeC P b))
  | .cond c a b => do pure (.cond (← opdD P c) (← codeC P a) (← codeC P b))
  | .block id c => (codeC P c).map (.block id)
  | .loop c => (codeC P c).map .loop
  | .exit id => some (.exit id)
  | .ret => some .ret
  | .scope c => codeC P c
  | .label _ => some .skip
  | _ => none

def funcC (P : Program) (fn : Func) : Option DFunc := do
  let b ← fn.body
  let rs ← fn.results.toList.mapM fun
    | .tmp t => some (DRes.tmp t)
    | .cell a t => (sizeT P t).map fun n => .cell a n (isAggT P t)
  pure ⟨fn.params.size, rs, ← codeC P b⟩

def methodD (P : Program) (t : TypeId) (name : String) : Option (Nat × Recv) := do
  let i ← P.info? t
  let m ← i.methods.find? (·.name == name)
  if m.path.size ≠ 0 then none
  let (f, ptr) ← m.func
  match P.underlying t, ptr with
  | some (.pointer _), true => some (f, .same)
  | some (.pointer _), false => none
  | some _, false => some (f, .same)
  | _, _ => none
def implD (P : Program) (t u : TypeId) : Option Bool := do
  let i ← P.info? t
  match P.underlying u with
  | some (.interface want) => pure (Instr.missingMethod want i.methods).isNone
  | _ => none
def progC (P : Program) : DProg := { impl := implD P, funcs := fun f => (P.funcs[f]?).bind (funcC P), etys := etyD P 8, methods := methodD P, spec := fun _ => none }
end Go.Dx
