/- The evaluator, part 3. -/
import Derived.Test.YtfdplefijefeiaaGreatDoorZ1
import Derived.Below
import Derived.Deep.MidRow
import Derived.Laws.Entries
import Derived.Laws.Cells
/- D: the compiler from the model's code. -/
namespace Go.Dx
open Go

def valD : Nat → Value → Option DV
  | 0, _ => none
  | n + 1, v => match v with
    | .bool b => some (.bool b)
    | .int k i => some (.int k i)
    | .string s => some (.str s.data.toList)
    | .pointer none => some .nilPtr
    | .slice none 0 0 => some .nilSlice
    | .map none => some .nilMap
    | .func fn a b => match a.toList.mapM (valD n), b.toList.mapM (valD n) with
      | some a, some b => some (.func fn a b)
      | _, _ => none
    | .nilFunc => some .nilFunc
    | .iface t v => (valD n v).map (.iface t)
    | .nilIface => some .nilIface
    | .agg cs => (cs.toList.mapM (valD n)).map .agg
    | .tuple cs => (cs.toList.mapM (valD n)).map .tuple
    | _ => none

def opdD (P : Program) : Operand → Option Opd
  | .tmp n => some (.t n)
  | .const v => (valD 4 v).map .c
  | .global g => if g < P.globals.size then some (.c (.ptr g 0)) else none
  | .func f => some (.c (.func (.func f) [] []))
def opdsD (P : Program) (xs : Array Operand) : Option (List Opd) := xs.toList.mapM (opdD P)
def opdO (P : Program) : Option Operand → Option (Option Opd)
  | none => some none
  | some x => (opdD P x).map some

def isAggT (P : Program) (t : TypeId) : Bool := match P.underlying t with | some (.struct _) | some (.array ..) => true | _ => false
def sizeT (P : Program) (t : TypeId) : Option Nat := (P.info? t).map (·.size)
def zeroT (P : Program) (t : TypeId) : Option DV := (P.info? t).bind fun i => i.zero.bind (valD 4)

def etyD (P : Program) : Nat → TypeId → Option ETy
  | 0, _ => none
  | n' + 1, t => match P.underlying t with
    | some .bool => some (.prim 0)
    | some (.int _) => some (.prim 1)
    | some .string => some (.prim 2)
    | some (.pointer e) => match sizeT P e with | some 0 => none | some _ => some .ptr | none => none
    | some (.interface ms) => some (.iface (!ms.isEmpty))
    | some (.slice _) => some (.ref 0)
    | some (.map ..) => some (.ref 1)
    | some (.func ..) => some (.ref 2)
    | some (.array k e) => do
      let n ← sizeT P e
      let x ← etyD P n' e
      pure (.struct ((List.range k).map fun i => (i * n, n, isAggT P e, x)))
    | some (.struct fs) => if P.stoodInHeld t then none else
      ((fs.toList.filter fun (f : Field) => f.name != "_").mapM fun (f : Field) => do pure (f.offset, ← sizeT P f.type, isAggT P f.type, ← etyD P n' f.type)).map .struct
    | _ => none

def isConstO : Operand → Bool
  | .const _ => true
  | _ => false

def partsD (P : Program) (t : TypeId) (ps : Array (Nat × Operand)) : Option (List (Nat × Nat × Opd)) :=
  match P.underlying t with
  | some (.struct fs) => match fs.toList.mapM (fun (f : Field) => (P.info? f.type).map fun i => (f.offset, i.size)) with
    | none => none
    | some places => ps.toList.mapM fun q => match places[q.1]? with
      | none => none
      | some p => match opdD P q.2 with
        | none => none
        | some x => some (p.1, p.2, x)
  | some (.array _ e) => match sizeT P e with
    | none => none
    | some n => ps.toList.mapM fun q => match opdD P q.2 with
      | none => none
      | some x => some (q.1 * n, n, x)
  | _ => none

def callD' (P : Program) (c : Call) : Option DOp :=
  match c.callee with
  | .value (.func f) => (opdsD P c.args).map (.callF f)
  | .value x => do pure (.callV (← opdD P x) (← opdsD P c.args))
  | .invoke x name => do pure (.callM (← opdD P x) name (← opdsD P c.args))
  | .builtin _ => none

def primKey (P : Program) (t : TypeId) : Option Bool :=
  match P.underlying t with
  | some (.map k _) => match P.underlying k with | some (.int _) => some false | some .string => some true | _ => none
  | _ => none
def elemZero (P : Program) (t : TypeId) : Option DV :=
  match P.underlying t with | some (.map _ e) => zeroT P e | _ => none

def bsliceD (P : Program) (n : Nat) (i : TypeInfo) (z : DV) (ps : Array (Nat × Operand)) : Option DOp :=
  if z.cells.length = i.size ∧ n * i.size ≤ 16777216 then
    match ps.toList.mapM (fun q => (match opdD P q.2 with | none => none | some x => some (q.1 * i.size, i.size, x))) with
    | some parts => some (.buildSlice n (List.replicate n z.cells).flatten parts)
    | none => none
  else none
def builtinD (P : Program) (b : Builtin) (c : Call) : Option DOp := do
  match b, c.args.toList with
  | .len, [x] => match P.underlying (← c.argTypes[0]?) with
    | some .string => pure (.lenStr (← opdD P x))
    | some (.slice _) => pure (.lenSl (← opdD P x))
    | some (.map ..) => pure (.lenMap (← opdD P x))
    | some (.array n _) => pure (.lenArr n)
    | some (.pointer a) => match P.underlying a with
      | some (.array n _) => pure (.lenArr n)
      | _ => none
    | _ => none
  | .append, [x, y] => match P.underlying (← c.argTypes[0]?) with
    | some (.slice e) => match P.underlying (← c.argTypes[1]?) with
      | some (.slice _) | some .string => match P.info? e, zeroT P e with
        | some i, some z => if z.cells.length = i.size then do pure (.append i.size i.bytes [] (← opdD P x) (← opdD P y)) else none
        | _, _ => none
      | _ => none
    | _ => none
  | .copy, [x, y] => match P.underlying (← c.argTypes[0]?) with
    | some (.slice e) => pure (.copy (← sizeT P e) (← opdD P x) (← opdD P y))
    | _ => none
  | .delete, [m, k] => pure (.delete (← primKey P (← c.argTypes[0]?)) (← opdD P m) (← opdD P k))
  | .cap, [x] => match P.underlying (← c.argTypes[0]?) with
    | some (.slice _) => pure (.capSl (← opdD P x))
    | _ => none
  | .clear, [x] => match P.underlying (← c.argTypes[0]?) with
    | some (.map ..) => pure (.clearMap (← opdD P x))
    | _ => none
  | .max, xs => pure (.minmax true (← xs.mapM (opdD P)))
  | .min, xs => pure (.minmax false (← xs.mapM (opdD P)))
  | _, _ => none

def opC (P : Program) (o : Oper) : Option DOp := do
  match o.op with
  | .move x | .assign x => pure (.mov (← opdD P x))
  | .pick c a b => pure (.pick (← opdD P c) (← opdD P a) (← opdD P b))
  | .alloc e => pure (.alloc (← zeroT P e).cells)
  | .box _ x => pure (.box (← opdD P x))
  | .build t ps => pure (.build (← zeroT P t).cells (← partsD P t ps))
  | .buildSlice t n ps => match P.underlying t with
    | some (.slice e) => match P.info? e, zeroT P e with
      | some i, some z => bsliceD P n i z ps
      | _, _ => none
    | _ => none
  | .load t a => match P.underlying t with
    | none => none
    | some _ => if isAggT P t then do pure (.loadN (← sizeT P t) (← opdD P a)) else do pure (.load1 (← opdD P a))
  | .store t a v => pure (.store (← sizeT P t) (← opdD P a) (← opdD P v))
  | .nilCheck x => pure (.nilCheck (← opdD P x))
  | .binOp op t x y _ => match op with
    | .eql | .neq => do
      match P.underlying t with
      | some (.int _) | some .string => pure (.bin op (← opdD P x) (← opdD P y))
      | some (.interface ms) => pure (.eqv (op == .neq) (.iface (!ms.isEmpty && !isConstO x && !isConstO y)) (← opdD P x) (← opdD P y))
      | _ => if P.eqGuardType P.depth t then none else pure (.eqv (op == .neq) (← etyD P 8 t) (← opdD P x) (← opdD P y))
    | _ => pure (.bin op (← opdD P x) (← opdD P y))
  | .unOp op _ x => pure (.un op (← opdD P x))
  | .convert s d x => match P.underlying s, P.underlying d with
    | some (.int _), some (.int k) => do pure (.convInt k (← opdD P x))
    | some .string, some .string => do pure (.movStr (← opdD P x))
    | some .string, some (.slice e) => match P.underlying e with
      | some (.int .u8) => do pure (.strBytes (← opdD P x))
      | _ => none
    | some (.slice e), some .string => match P.underlying e with
      | some (.int .u8) => do pure (.bytesStr (← opdD P x))
      | _ => none
    | some (.slice e), some (.slice _) => match P.underlying e, s == d with
      | some (.int .u8), true => do pure (.strish (← opdD P x))
      | _, _ => none
    | _, _ => none
  | .makeInterface t x => match P.underlying t with
    | some (.interface _) => none
    | some _ => do pure (.mkIface t (← opdD P x))
    | none => none
  | .makeFunc fn a b => pure (.mkFunc fn (← opdsD P a) (← opdsD P b))
  | .makeMap _ none => pure .mkMap
  | .makeSlice t l c => match P.underlying t with
    | some (.slice e) => match P.info? e with
      | some i => do pure (.mkSlice (← zeroT P e).cells i.size i.bytes (← opdD P l) (← opdD P c))
      | none => none
    | _ => none
  | .slice t x lo hi mx => match P.underlying t with
    | some .string => do if mx.isSome then none else pure (.sliceStr (← opdD P x) (← opdO P lo) (← opdO P hi))
    | some (.slice e) => match hi, mx with
      | some hi, some mx => do pure (.sliceSl (← sizeT P e) (← opdD P x) (← opdO P lo) (some (← opdD P hi)) (some (← opdD P mx)))
      | hi, none => do pure (.sliceSl (← sizeT P e) (← opdD P x) (← opdO P lo) (← opdO P hi) none)
      | none, some _ => none
    | some (.array n e) => do if mx.isSome then none else pure (.sliceArr n (← sizeT P e) (← opdD P x) (← opdO P lo) (← opdO P hi))
    | some (.pointer a) => match P.underlying a with
      | some (.array n e) => do if mx.isSome then none else pure (.sliceArr n (← sizeT P e) (← opdD P x) (← opdO P lo) (← opdO P hi))
      | _ => none
    | _ => none
  | .fieldAddr t x f => match P.underlying t with
    | some (.struct fs) => do
      let f ← fs[f]?
      if (← sizeT P f.type) = 0 then none else pure (.fieldAddr f.offset (← opdD P x))
    | _ => none
  | .field t x f => match P.underlying t with
    | some (.struct fs) => do
      let f ← fs[f]?
      let _ ← P.underlying f.type
      pure (.field f.offset (← sizeT P f.type) (isAggT P f.type) (← opdD P x))
    | _ => none
  | .indexAddr t x i => match P.underlying t with
    | some (.array n e) => do pure (.indexAddrA n (← sizeT P e) (← opdD P x) (← opdD P i))
    | some (.slice e) => do pure (.indexAddrS (← sizeT P e) (← opdD P x) (← opdD P i))
    | _ => none
  | .index t x i => match P.underlying t with
    | some .string => do pure (.indexStr (← opdD P x) (← opdD P i))
    | some (.array n e) => do
      let _ ← P.underlying e
      pure (.indexArr n (← sizeT P e) (isAggT P e) (← opdD P x) (← opdD P i))
    | _ => none
  | .lookup t m k ok => do pure (.lookup (← primKey P t) (← elemZero P t) (← opdD P m) (← opdD P k) ok)
  | .mapUpdate t m k v | .insert t m k v => do pure (.mapUpdate (← primKey P t) (← opdD P m) (← opdD P k) (← opdD P v))
  | .range t x => match P.underlying t with
    | some .string => do pure (.rangeStr (← opdD P x))
    | some (.map ..) => do pure (.rangeMap (← opdD P x))
    | _ => none
  | .next it s => do if s then pure (.nextStr (← opdD P it)) else pure (.nextMap (← opdD P it))
  | .entry it => pure (.entry (← opdD P it))
  | .typeAssert x _ t ok => match P.underlying t with
    | some (.interface _) => match zeroT P t with
      | some .nilIface => do pure (.assertI (← opdD P x) t ok)
      | _ => none
    | some _ => do pure (.assertC (← opdD P x) t ok (← zeroT P t))
    | none => none
  | .extract x i => pure (.extract (← opdD P x) i)
  | .call c => match c.callee with
    | .builtin b => builtinD P b c
    | _ => callD' P c
  | .panic _ => pure .fail
  | _ => none

def operC (P : Program) (ops : Array Oper) (o : Oper) : Option DOper := do
  let g ← match o.guard with
    | none => some none
    | some (j, b) => ((ops[j]?).bind (·.dst)).map fun d => some (d, b)
  pure ⟨o.dst, g, ← opC P o⟩

def codeC (P : Program) : Code → Option DCode
  | .skip => some .skip
  | .region _ ops draw => (ops.toList.mapM (operC P ops)).map fun l => if draw then .draw (l.map fun x => (x, .alone 0)) else .region l
  | .seq a b => do pure (.seq (← codeC P a) (← codeC P b))
  | .cond c a b => do pure (.cond (← opdD P c) (← codeC P a) (← codeC P b))
  | .block id c => (codeC P c).map (.block id)
  | .loop c => (codeC P c).map .loop
  | .exit id => some (.exit id)
  | .ret => some .ret
  | .scope c => codeC P c
  | .label _ => some .skip
  | _ => none

def funcC (P : Program) (fn : Func) : Option DFunc := do
  let b ← fn.body
  let rs ← fn.results.toList.mapM fun
    | .tmp t => some (DRes.tmp t)
    | .cell a t => (sizeT P t).map fun n => .cell a n (isAggT P t)
  pure ⟨fn.params.size, rs, ← codeC P b⟩

def methodD (P : Program) (t : TypeId) (name : String) : Option (Nat × Recv) := do
  let i ← P.info? t
  let m ← i.methods.find? (·.name == name)
  if m.path.size ≠ 0 then none
  let (f, ptr) ← m.func
  match P.underlying t, ptr with
  | some (.pointer _), true => some (f, .same)
  | some (.pointer _), false => none
  | some _, false => some (f, .same)
  | _, _ => none
def implD (P : Program) (t u : TypeId) : Option Bool := do
  let i ← P.info? t
  match P.underlying u with
  | some (.interface want) => pure (Instr.missingMethod want i.methods).isNone
  | _ => none
def progC (P : Program) : DProg := { impl := implD P, funcs := fun f => (P.funcs[f]?).bind (funcC P), etys := etyD P 8, methods := methodD P, spec := fun _ => none }
end Go.Dx
/- D: how an own value and heap stand for the model's. -/
namespace Go.Dx
open Go

structure Ent where
  blk : Nat
  base : Nat
  sp : Nat
  sz : Nat
abbrev Env := Nat → Option Ent
def Env.le (e e' : Env) : Prop := ∀ b x, e b = some x → e' b = some x
theorem Env.le.refl (e : Env) : Env.le e e := fun _ _ h => h
theorem Env.le.trans {a b c : Env} (h : Env.le a b) (g : Env.le b c) : Env.le a c := fun _ _ x => g _ _ (h _ _ x)

mutual
def val (e : Env) : DV → Option Value
  | .bool b => some (.bool b)
  | .int k n => some (.int k n)
  | .str s => some (.string ⟨s.toArray⟩)
  | .nilPtr => some (.pointer none)
  | .ptr b o => match e b with | some x => some (.pointer (some ⟨x.blk, x.base + o, none⟩)) | none => none
  | .nilSlice => some (.slice none 0 0)
  | .slice b o z len cap tight => match e b with
    | some x => some (.slice (some ⟨x.blk, x.base + (if (if tight then cap else cap + x.sp) = 0 then z else o), none⟩) len (if tight then cap else cap + x.sp))
    | none => none
  | .clip b o z => match e b with
    | some x => some (.slice (some ⟨x.blk, x.base + (if x.sp = 0 then z else o), none⟩) 0 0)
    | none => none
  | .nilMap => some (.map none)
  | .map r => match e r with | some x => some (.map (some x.blk)) | none => none
  | .func fn a b => match vals e a, vals e b with
    | some a, some b => some (.func fn a.toArray b.toArray)
    | _, _ => none
  | .nilFunc => some .nilFunc
  | .iface t v => match val e v with | some x => some (.iface t x) | none => none
  | .nilIface => some .nilIface
  | .agg cs => match vals e cs with | some l => some (.agg l.toArray) | none => none
  | .tuple cs => match vals e cs with | some l => some (.tuple l.toArray) | none => none
def vals (e : Env) : List DV → Option (List Value)
  | [] => some []
  | v :: vs => match val e v, vals e vs with
    | some x, some xs => some (x :: xs)
    | _, _ => none
end

mutual
theorem val_mono {e e' : Env} (h : Env.le e e') : ∀ (v : DV) (r : Value), val e v = some r → val e' v = some r
  | .bool _, _, hr | .int _ _, _, hr | .str _, _, hr | .nilPtr, _, hr | .nilSlice, _, hr | .nilMap, _, hr | .nilFunc, _, hr | .nilIface, _, hr => by simpa [val] using hr
  | .ptr b o, r, hr => by
    cases hb : e b with
    | none => simp [val, hb] at hr
    | some x => simp [val, hb] at hr; simp [val, h b x hb, hr]
  | .slice b o z len cap t, r, hr => by
    cases hb : e b with
    | none => simp [val, hb] at hr
    | some x => simp only [val, hb] at hr; simp only [val, h b x hb, hr]
  | .clip b o z, r, hr => by
    cases hb : e b with
    | none => simp [val, hb] at hr
    | some x => simp only [val, hb] at hr; simp only [val, h b x hb, hr]
  | .map b, r, hr => by
    cases hb : e b with
    | none => simp [val, hb] at hr
    | some x => simp [val, hb] at hr; simp [val, h b x hb, hr]
  | .func fn a b, r, hr => by
    cases ha : vals e a with
    | none => simp [val, ha] at hr
    | some x =>
      cases hb : vals e b with
      | none => simp [val, ha, hb] at hr
      | some y => simp [val, ha, hb] at hr; simp [val, vals_mono h a x ha, vals_mono h b y hb, hr]
  | .iface t v, r, hr => by
    cases hv : val e v with
    | none => simp [val, hv] at hr
    | some x => simp [val, hv] at hr; simp [val, val_mono h v x hv, hr]
  | .agg cs, r, hr => by
    cases hv : vals e cs with
    | none => simp [val, hv] at hr
    | some x => simp [val, hv] at hr; simp [val, vals_mono h cs x hv, hr]
  | .tuple cs, r, hr => by
    cases hv : vals e cs with
    | none => simp [val, hv] at hr
    | some x => simp [val, hv] at hr; simp [val, vals_mono h cs x hv, hr]
theorem vals_mono {e e' : Env} (h : Env.le e e') : ∀ (vs : List DV) (r : List Value), vals e vs = some r → vals e' vs = some r
  | [], _, hr => by simpa [vals] using hr
  | v :: vs, r, hr => by
    cases hv : val e v with
    | none => simp [vals, hv] at hr
    | some x =>
      cases hvs : vals e vs with
      | none => simp [vals, hv, hvs] at hr
      | some xs => simp [vals, hv, hvs] at hr; simp [vals, val_mono h v x hv, vals_mono h vs xs hvs, hr]
end

theorem vals_cons {e : Env} {v : DV} {vs : List DV} {r : List Value} (h : vals e (v :: vs) = some r) : ∃ x xs, r = x :: xs ∧ val e v = some x ∧ vals e vs = some xs := by
  cases hv : val e v with
  | none => simp [vals, hv] at h
  | some x =>
    cases hvs : vals e vs with
    | none => simp [vals, hv, hvs] at h
    | some xs => simp [vals, hv, hvs] at h; exact ⟨x, xs, h.symm, rfl, rfl⟩
theorem vals_cons_of {e : Env} {v : DV} {vs : List DV} {x : Value} {xs : List Value} (h : val e v = some x) (g : vals e vs = some xs) : vals e (v :: vs) = some (x :: xs) := by simp [vals, h, g]
theorem vals_length {e : Env} : ∀ {vs : List DV} {r : List Value}, vals e vs = some r → r.length = vs.length
  | [], r, h => by simp [vals] at h; rw [h]; rfl
  | v :: vs, r, h => by
    obtain ⟨x, xs, rfl, _, g⟩ := vals_cons h
    simp [vals_length g]
theorem vals_append {e : Env} : ∀ {a b : List DV} {x y : List Value}, vals e a = some x → vals e b = some y → vals e (a ++ b) = some (x ++ y)
  | [], b, x, y, h, g => by simp [vals] at h; subst h; simpa using g
  | v :: a, b, x, y, h, g => by
    obtain ⟨u, us, rfl, hu, hus⟩ := vals_cons h
    exact vals_cons_of hu (vals_append hus g)
theorem vals_drop {e : Env} : ∀ (n : Nat) {a : List DV} {x : List Value}, vals e a = some x → vals e (a.drop n) = some (x.drop n)
  | 0, a, x, h => by simpa using h
  | n + 1, [], x, h => by simp [vals] at h; subst h; simp [vals]
  | n + 1, v :: a, x, h => by
    obtain ⟨u, us, rfl, _, hus⟩ := vals_cons h
    simpa using vals_drop n hus
theorem vals_take {e : Env} : ∀ (n : Nat) {a : List DV} {x : List Value}, vals e a = some x → vals e (a.take n) = some (x.take n)
  | 0, a, x, h => by simp [vals]
  | n + 1, [], x, h => by simp [vals] at h; subst h; simp [vals]
  | n + 1, v :: a, x, h => by
    obtain ⟨u, us, rfl, hu, hus⟩ := vals_cons h
    simpa using vals_cons_of hu (vals_take n hus)
theorem vals_get {e : Env} : ∀ {a : List DV} {x : List Value} {i : Nat} {v : DV}, vals e a = some x → a[i]? = some v → ∃ r, x[i]? = some r ∧ val e v = some r
  | [], x, i, v, _, g => by simp at g
  | u :: a, x, 0, v, h, g => by
    obtain ⟨r, rs, rfl, hr, _⟩ := vals_cons h
    simp at g; subst g
    exact ⟨r, rfl, hr⟩
  | u :: a, x, i + 1, v, h, g => by
    obtain ⟨r, rs, rfl, _, hrs⟩ := vals_cons h
    simpa using vals_get hrs (by simpa using g)
theorem vals_sub {e : Env} {a : List DV} {x : List Value} (o n : Nat) (h : vals e a = some x) : vals e (sub a o n) = some ((x.drop o).take n) := vals_take n (vals_drop o h)
theorem vals_put {e : Env} {a b : List DV} {x y : List Value} (o : Nat) (h : vals e a = some x) (g : vals e b = some y) : vals e (put a o b) = some (x.take o ++ y ++ x.drop (o + y.length)) := by
  rw [put, vals_length g]
  exact vals_append (vals_append (vals_take o h) g) (vals_drop _ h)

/-- a map's entries -/
def ents (e : Env) : List (DV × DV × Nat) → Option (List MapEntry)
  | [] => some []
  | (k, v, n) :: es => match val e k, val e v, ents e es with
    | some k, some v, some es => some (⟨k, v, n⟩ :: es)
    | _, _, _ => none
def mref (e : Env) : Option Nat → Option (Option Nat)
  | none => some none
  | some r => match e r with | some x => some (some x.blk) | none => none
theorem ents_cons {e : Env} {k v : DV} {n : Nat} {es : List (DV × DV × Nat)} {r : List MapEntry} (h : ents e ((k, v, n) :: es) = some r) : ∃ k' v' es', r = ⟨k', v', n⟩ :: es' ∧ val e k = some k' ∧ val e v = some v' ∧ ents e es = some es' := by
  cases hk : val e k with
  | none => simp [ents, hk] at h
  | some k' =>
    cases hv : val e v with
    | none => simp [ents, hk, hv] at h
    | some v' =>
      cases hs : ents e es with
      | none => simp [ents, hk, hv, hs] at h
      | some es' => simp [ents, hk, hv, hs] at h; exact ⟨k', v', es', h.symm, rfl, rfl, rfl⟩
theorem ents_mono {e e' : Env} (h : Env.le e e') : ∀ (es : List (DV × DV × Nat)) (r : List MapEntry), ents e es = some r → ents e' es = some r
  | [], r, hr => by simpa [ents] using hr
  | (k, v, n) :: es, r, hr => by
    obtain ⟨k', v', es', rfl, hk, hv, hs⟩ := ents_cons hr
    simp [ents, val_mono h _ _ hk, val_mono h _ _ hv, ents_mono h es es' hs]
theorem mref_mono {e e' : Env} (h : Env.le e e') {m : Option Nat} {r : Option Nat} (hr : mref e m = some r) : mref e' m = some r := by
  cases m with
  | none => simpa [mref] using hr
  | some b =>
    cases hb : e b with
    | none => simp [mref, hb] at hr
    | some x => simp [mref, hb] at hr; simp [mref, h b x hb, hr]

def DObj.ro : DObj → Bool
  | .cells _ ro _ => ro
  | _ => false
/-- a row of cells in which nothing is frozen but behind its end -/
def Unfrozen (w : World) (B : Nat) : Prop := ∃ c T lo hi, w.heap[B]? = some (.cells c T (lo, hi)) ∧ (lo = hi ∨ c.size ≤ lo)
/-- an object, in the model's memory -/
def objAt (e : Env) (w : World) (x : Ent) : DObj → Prop
  | .cells cs ro k => ∃ rs, vals e cs = some rs ∧ w.rangeAt x.blk x.base rs ∧ (ro = false → w.there x.blk x.base (cs.length + x.sp * x.sz)) ∧ x.sz = k ∧ (ro = false → Unfrozen w x.blk)
  | .map es cl => ∃ ms, ents e es = some ms ∧ w.heap[x.blk]? = some (.map ms.toArray cl)
  | .strIter s p => x.base = 0 ∧ w.heap[x.blk]? = some (.stringIter ⟨s.toArray⟩ p)
  | .mapIter m since seen st => x.base = 0 ∧ ∃ r, mref e m = some r ∧ w.heap[x.blk]? = some (.mapIter r since seen.toArray st)
theorem objAt.mono {e e' : Env} (h : Env.le e e') {w : World} {x : Ent} {o : DObj} (g : objAt e w x o) : objAt e' w x o := by
  cases o with
  | cells cs ro k => obtain ⟨rs, h1, h2⟩ := g; exact ⟨rs, vals_mono h _ _ h1, h2⟩
  | map es cl => obtain ⟨ms, h1, h2⟩ := g; exact ⟨ms, ents_mono h _ _ h1, h2⟩
  | strIter s p => exact g
  | mapIter m a b c => obtain ⟨h0, r, h1, h2⟩ := g; exact ⟨h0, r, mref_mono h h1, h2⟩
/-- it stands on its block alone -/
theorem objAt.block {e : Env} {w w' : World} {x : Ent} {o : DObj} (g : objAt e w x o) (hb : w'.heap[x.blk]? = w.heap[x.blk]?) : objAt e w' x o := by
  have hc : ∀ off, w'.cell? ⟨x.blk, off, none⟩ = w.cell? ⟨x.blk, off, none⟩ := fun off => World.cell?_of_block hb
  have hf : ∀ off, w'.frozen? ⟨x.blk, off, none⟩ = w.frozen? ⟨x.blk, off, none⟩ := fun off => by unfold World.frozen?; rw [hb]
  cases o with
  | cells cs ro k =>
    obtain ⟨rs, h1, h2, h3, h4, h5⟩ := g
    refine ⟨rs, h1, fun j v hv => (hc _).trans (h2 j v hv), fun hr j hj => ?_, h4, fun hr => by unfold Unfrozen; rw [hb]; exact h5 hr⟩
    rw [hc, hf]; exact h3 hr j hj
  | map es cl => obtain ⟨ms, h1, h2⟩ := g; exact ⟨ms, h1, hb.trans h2⟩
  | strIter s p => exact ⟨g.1, hb.trans g.2⟩
  | mapIter m a b c => obtain ⟨h0, r, h1, h2⟩ := g; exact ⟨h0, r, h1, hb.trans h2⟩

structure Rep (e : Env) (h : DHeap) (w : World) : Prop where
  obj : ∀ b o, h.get b = some o → ∃ x, e b = some x ∧ objAt e w x o
  inj : ∀ b b' o o' x x', h.get b = some o → h.get b' = some o' → o.ro = false ∨ o'.ro = false → e b = some x → e b' = some x' → x.blk = x'.blk → b = b'
  lt : ∀ b x, e b = some x → x.blk < w.heap.size
  new : ∀ b, h.next ≤ b → e b = none

/-- which blocks may be written -/
def Foot (e : Env) (h : DHeap) (B : Nat) : Prop := ∃ b o x, h.get b = some o ∧ o.ro = false ∧ e b = some x ∧ x.blk = B
structure Step (e : Env) (h : DHeap) (w : World) (e' : Env) (h' : DHeap) (w' : World) : Prop where
  le : Env.le e e'
  rep : Rep e' h' w'
  os : w'.os = w.os
  tape : w'.tape = w.tape
  output : w'.output = w.output
  size : w.heap.size ≤ w'.heap.size
  block : ∀ B, B < w.heap.size → ¬ Foot e h B → w'.heap[B]? = w.heap[B]?
  foot : ∀ B, Foot e' h' B → Foot e h B ∨ w.heap.size ≤ B
  rng : ∀ b x, e' b = some x → (∃ c y, e c = some y ∧ y.blk = x.blk) ∨ w.heap.size ≤ x.blk
theorem Step.refl {e : Env} {h : DHeap} {w : World} (r : Rep e h w) : Step e h w e h w := ⟨Env.le.refl e, r, rfl, rfl, rfl, Nat.le_refl _, fun _ _ _ => rfl, fun _ => .inl, fun b x hb => .inl ⟨b, x, hb, rfl⟩⟩
theorem Step.trans {e e' e'' : Env} {h h' h'' : DHeap} {w w' w'' : World} (a : Step e h w e' h' w') (b : Step e' h' w' e'' h'' w'') : Step e h w e'' h'' w'' where
  le := a.le.trans b.le
  rep := b.rep
  os := b.os.trans a.os
  tape := b.tape.trans a.tape
  output := b.output.trans a.output
  size := Nat.le_trans a.size b.size
  block := fun B hB hF => (b.block B (Nat.lt_of_lt_of_le hB a.size) fun hF' => (a.foot B hF').elim hF fun hge => absurd hB (by omega)).trans (a.block B hB hF)
  foot := fun B hF => (b.foot B hF).elim (fun hF' => a.foot B hF') fun hge => .inr (Nat.le_trans a.size hge)
  rng := fun c x hc => (b.rng c x hc).elim (fun ⟨d, y, hd, hy⟩ => hy ▸ a.rng d y hd) fun hge => .inr (Nat.le_trans a.size hge)
end Go.Dx
/- D: the trie, and the heap's moves. -/
namespace Go.Dx
open Go

theorem Tr.get_nil {α : Type} (n : Nat) : (Tr.nil : Tr α).get n = none := rfl
theorem half_inj {m n : Nat} (h : m / 2 = n / 2) (g : m % 2 = n % 2) : m = n := by omega
theorem Tr.get_setF {α : Type} (x : Option α) : ∀ (f : Nat) (t : Tr α) (n m : Nat), n < f → (Tr.setF x f t n).get m = if m = n then x else t.get m
  | 0, _, _, _, h => by omega
  | f + 1, .nil, 0, m, _ => by
    cases m with
    | zero => simp [Tr.setF, Tr.get, bif_beq]
    | succ m => simp [Tr.setF, Tr.get, bif_beq]
  | f + 1, .nil, n + 1, m, h => by
    have ih := Tr.get_setF x f .nil (n / 2)
    simp only [Tr.setF, bif_beq]
    cases m with
    | zero => split <;> simp [Tr.get, bif_beq]
    | succ m =>
      by_cases hn : n % 2 = 0
      · rw [if_pos hn]
        simp only [Tr.get, bif_beq]
        by_cases hm : m % 2 = 0
        · rw [if_pos hm, ih _ (by omega)]
          by_cases e : m / 2 = n / 2
          · rw [if_pos e, if_pos (by omega)]
          · rw [if_neg e, if_neg (by omega)]; rfl
        · rw [if_neg hm, if_neg (by omega)]
      · rw [if_neg hn]
        simp only [Tr.get, bif_beq]
        by_cases hm : m % 2 = 0
        · rw [if_pos hm, if_neg (by omega)]
        · rw [if_neg hm, ih _ (by omega)]
          by_cases e : m / 2 = n / 2
          · rw [if_pos e, if_pos (by omega)]
          · rw [if_neg e, if_neg (by omega)]; rfl
  | f + 1, .node l v r, 0, m, _ => by
    cases m with
    | zero => simp [Tr.setF, Tr.get, bif_beq]
    | succ m => simp [Tr.setF, Tr.get, bif_beq]
  | f + 1, .node l v r, n + 1, m, h => by
    have ihl := Tr.get_setF x f l (n / 2)
    have ihr := Tr.get_setF x f r (n / 2)
    simp only [Tr.setF, bif_beq]
    cases m with
    | zero => split <;> simp [Tr.get, bif_beq]
    | succ m =>
      by_cases hn : n % 2 = 0
      · rw [if_pos hn]
        simp only [Tr.get, bif_beq]
        by_cases hm : m % 2 = 0
        · rw [if_pos hm, if_pos hm, ihl _ (by omega)]
          by_cases e : m / 2 = n / 2
          · rw [if_pos e, if_pos (by omega)]
          · rw [if_neg e, if_neg (by omega)]
        · rw [if_neg hm, if_neg hm, if_neg (by omega)]
      · rw [if_neg hn]
        simp only [Tr.get, bif_beq]
        by_cases hm : m % 2 = 0
        · rw [if_pos hm, if_pos hm, if_neg (by omega)]
        · rw [if_neg hm, if_neg hm, ihr _ (by omega)]
          by_cases e : m / 2 = n / 2
          · rw [if_pos e, if_pos (by omega)]
          · rw [if_neg e, if_neg (by omega)]
theorem Tr.get_set {α : Type} (t : Tr α) (n m : Nat) (x : Option α) : (t.set n x).get m = if m = n then x else t.get m := Tr.get_setF x _ t n m (Nat.lt_succ_self n)

theorem DHeap.get_put (h : DHeap) (b c : Nat) (o : DObj) : (h.put b o).get c = if c = b then some o else h.get c := Tr.get_set ..
theorem DHeap.get_kill (h : DHeap) (b c : Nat) : (h.kill b).get c = if c = b then none else h.get c := Tr.get_set ..
theorem DHeap.get_new (h : DHeap) (c : Nat) (o : DObj) : (h.new o).get c = if c = h.next then some o else h.get c := Tr.get_set ..

/-- the environment with one more -/
def Env.add (e : Env) (b : Nat) (x : Ent) : Env := fun c => if c = b then some x else e c
theorem Env.le_add {e : Env} {b : Nat} (h : e b = none) (x : Ent) : Env.le e (e.add b x) := fun c y hc => by
  unfold Env.add
  rw [if_neg (fun e => by rw [e, h] at hc; cases hc)]; exact hc

theorem live_lt {e : Env} {h : DHeap} {w : World} (r : Rep e h w) {b : Nat} {o : DObj} (hb : h.get b = some o) : b < h.next := by
  obtain ⟨x, hx, _⟩ := r.obj b o hb
  refine Nat.lt_of_not_le fun hle => ?_
  rw [r.new b hle] at hx; cases hx

/-- a new object, in a new block -/
theorem Step.new {e : Env} {h : DHeap} {w : World} (r : Rep e h w) {o : DObj} {w' : World} (x : Ent) (hx : x.blk = w.heap.size)
    (hs : w'.heap.size = w.heap.size + 1) (ho : w'.os = w.os) (ht : w'.tape = w.tape) (hu : w'.output = w.output) (hb : ∀ B, B < w.heap.size → w'.heap[B]? = w.heap[B]?)
    (hobj : objAt (e.add h.next x) w' x o) : Step e h w (e.add h.next x) (h.new o) w' where
  le := Env.le_add (r.new _ (Nat.le_refl _)) x
  os := ho
  tape := ht
  output := hu
  size := by omega
  block := fun B hB _ => hb B hB
  rng := fun b y hy => by
    unfold Env.add at hy
    by_cases hc : b = h.next
    · rw [if_pos hc] at hy
      cases hy
      exact .inr (by omega)
    · rw [if_neg hc] at hy
      exact .inl ⟨b, y, hy, rfl⟩
  foot := fun B ⟨b, o', y, h1, h2, h3, h4⟩ => by
    rw [DHeap.get_new] at h1
    by_cases hc : b = h.next
    · unfold Env.add at h3
      rw [if_pos hc] at h3
      cases h3
      exact .inr (by omega)
    · rw [if_neg hc] at h1
      unfold Env.add at h3
      rw [if_neg hc] at h3
      exact .inl ⟨b, o', y, h1, h2, h3, h4⟩
  rep := by
    have hle := Env.le_add (r.new _ (Nat.le_refl _)) x
    refine ⟨fun b o' hb' => ?_, fun b b' o1 o2 y y' h1 h2 hr0 h3 h4 h5 => ?_, fun b y hy => ?_, fun b hb' => ?_⟩
    · rw [DHeap.get_new] at hb'
      by_cases hc : b = h.next
      · rw [if_pos hc] at hb'
        cases hb'
        exact ⟨x, by unfold Env.add; rw [if_pos hc], hobj⟩
      · rw [if_neg hc] at hb'
        obtain ⟨y, hy, hob⟩ := r.obj b o' hb'
        refine ⟨y, by unfold Env.add; rw [if_neg hc]; exact hy, (hob.mono hle).block (hb _ (r.lt b y hy))⟩
    · rw [DHeap.get_new] at h1 h2
      unfold Env.add at h3 h4
      by_cases hc : b = h.next
      · by_cases hc' : b' = h.next
        · omega
        · rw [if_pos hc] at h3
          rw [if_neg hc'] at h4
          cases h3
          have := r.lt b' y' h4
          omega
      · by_cases hc' : b' = h.next
        · rw [if_neg hc] at h3
          rw [if_pos hc'] at h4
          cases h4
          have := r.lt b y h3
          omega
        · rw [if_neg hc] at h1 h3
          rw [if_neg hc'] at h2 h4
          exact r.inj b b' o1 o2 y y' h1 h2 hr0 h3 h4 h5
    · unfold Env.add at hy
      by_cases hc : b = h.next
      · rw [if_pos hc] at hy
        cases hy
        omega
      · rw [if_neg hc] at hy
        have := r.lt b y hy
        omega
    · have hb'' : h.next + 1 ≤ b := hb'
      unfold Env.add
      rw [if_neg (by omega)]
      exact r.new b (by omega)
/-- an object written over -/
theorem Step.put {e : Env} {h : DHeap} {w : World} (r : Rep e h w) {b : Nat} {o o' : DObj} {w' : World} {x : Ent} (hg : h.get b = some o) (hro : o.ro = false) (hro' : o'.ro = false) (hx : e b = some x)
    (hs : w'.heap.size = w.heap.size) (ho : w'.os = w.os) (ht : w'.tape = w.tape) (hu : w'.output = w.output) (hb : ∀ B, B ≠ x.blk → w'.heap[B]? = w.heap[B]?)
    (hobj : objAt e w' x o') : Step e h w e (h.put b o') w' where
  le := Env.le.refl e
  os := ho
  tape := ht
  output := hu
  size := by omega
  block := fun B _ hF => hb B fun e => hF ⟨b, o, x, hg, hro, hx, e.symm⟩
  rng := fun b y hy => .inl ⟨b, y, hy, rfl⟩
  foot := fun B ⟨c, o1, y, h1, h2, h3, h4⟩ => by
    rw [DHeap.get_put] at h1
    by_cases hc : c = b
    · rw [hc, hx] at h3
      cases h3
      exact .inl ⟨b, o, x, hg, hro, hx, h4⟩
    · rw [if_neg hc] at h1
      exact .inl ⟨c, o1, y, h1, h2, h3, h4⟩
  rep := by
    refine ⟨fun c o1 hc => ?_, fun c c' o1 o2 y y' h1 h2 hr0 h3 h4 h5 => ?_, fun c y hy => ?_, fun c hc => ?_⟩
    · rw [DHeap.get_put] at hc
      by_cases hcb : c = b
      · rw [if_pos hcb] at hc
        cases hc
        rw [hcb]
        exact ⟨x, hx, hobj⟩
      · rw [if_neg hcb] at hc
        obtain ⟨y, hy, hob⟩ := r.obj c o1 hc
        exact ⟨y, hy, hob.block (hb _ fun e => hcb (r.inj c b o1 o y x hc hg (.inr hro) hy hx e))⟩
    · have k1 : ∃ u, h.get c = some u ∧ (o1.ro = false → u.ro = false) := by
        rw [DHeap.get_put] at h1
        by_cases hcb : c = b
        · exact ⟨o, hcb ▸ hg, fun _ => hro⟩
        · rw [if_neg hcb] at h1; exact ⟨o1, h1, id⟩
      have k2 : ∃ u, h.get c' = some u ∧ (o2.ro = false → u.ro = false) := by
        rw [DHeap.get_put] at h2
        by_cases hcb : c' = b
        · exact ⟨o, hcb ▸ hg, fun _ => hro⟩
        · rw [if_neg hcb] at h2; exact ⟨o2, h2, id⟩
      obtain ⟨u1, k1, m1⟩ := k1
      obtain ⟨u2, k2, m2⟩ := k2
      exact r.inj c c' u1 u2 y y' k1 k2 (hr0.imp m1 m2) h3 h4 h5
    · rw [hs]; exact r.lt c y hy
    · exact r.new c hc
/-- a block more that nobody knows of yet -/
theorem Step.grow {e : Env} {h : DHeap} {w w' : World} (r : Rep e h w) (hs : w.heap.size ≤ w'.heap.size) (ho : w'.os = w.os) (ht : w'.tape = w.tape) (hu : w'.output = w.output) (hb : ∀ B, B < w.heap.size → w'.heap[B]? = w.heap[B]?) : Step e h w e h w' where
  le := Env.le.refl e
  os := ho
  tape := ht
  output := hu
  size := hs
  block := fun B hB _ => hb B hB
  foot := fun _ => .inl
  rng := fun b x hx => .inl ⟨b, x, hx, rfl⟩
  rep := ⟨fun b o hbo => let ⟨x, hx, hob⟩ := r.obj b o hbo; ⟨x, hx, hob.block (hb _ (r.lt b x hx))⟩, r.inj, fun b x hx => Nat.lt_of_lt_of_le (r.lt b x hx) hs, r.new⟩
/-- a block that nobody knew of yet becomes an object -/
theorem Step.realize {e0 : Env} {h0 : DHeap} {w0 : World} {e : Env} {h : DHeap} {w : World} (st : Step e0 h0 w0 e h w) {o : DObj} (x : Ent) (hx : x.blk < w.heap.size) (hx0 : w0.heap.size ≤ x.blk) (hf : ∀ b y, e b = some y → y.blk ≠ x.blk)
    (hobj : objAt (e.add h.next x) w x o) : Step e0 h0 w0 (e.add h.next x) (h.new o) w where
  le := st.le.trans (Env.le_add (st.rep.new _ (Nat.le_refl _)) x)
  os := st.os
  tape := st.tape
  output := st.output
  size := st.size
  block := st.block
  foot := fun B ⟨b, o', y, h1, h2, h3, h4⟩ => by
    rw [DHeap.get_new] at h1
    by_cases hc : b = h.next
    · unfold Env.add at h3
      rw [if_pos hc] at h3
      cases h3
      exact .inr (by omega)
    · rw [if_neg hc] at h1
      unfold Env.add at h3
      rw [if_neg hc] at h3
      exact st.foot B ⟨b, o', y, h1, h2, h3, h4⟩
  rng := fun b y hy => by
    unfold Env.add at hy
    by_cases hc : b = h.next
    · rw [if_pos hc] at hy
      cases hy
      exact .inr hx0
    · rw [if_neg hc] at hy
      exact st.rng b y hy
  rep := by
    have r := st.rep
    have hle := Env.le_add (r.new _ (Nat.le_refl _)) x
    refine ⟨fun b o' hb' => ?_, fun b b' o1 o2 y y' h1 h2 hr0 h3 h4 h5 => ?_, fun b y hy => ?_, fun b hb' => ?_⟩
    · rw [DHeap.get_new] at hb'
      by_cases hc : b = h.next
      · rw [if_pos hc] at hb'
        cases hb'
        exact ⟨x, by unfold Env.add; rw [if_pos hc], hobj⟩
      · rw [if_neg hc] at hb'
        obtain ⟨y, hy, hob⟩ := r.obj b o' hb'
        exact ⟨y, by unfold Env.add; rw [if_neg hc]; exact hy, hob.mono hle⟩
    · rw [DHeap.get_new] at h1 h2
      unfold Env.add at h3 h4
      by_cases hc : b = h.next
      · by_cases hc' : b' = h.next
        · omega
        · rw [if_pos hc] at h3
          rw [if_neg hc'] at h4
          cases h3
          exact absurd h5.symm (hf b' y' h4)
      · by_cases hc' : b' = h.next
        · rw [if_neg hc] at h3
          rw [if_pos hc'] at h4
          cases h4
          exact absurd h5 (hf b y h3)
        · rw [if_neg hc] at h1 h3
          rw [if_neg hc'] at h2 h4
          exact r.inj b b' o1 o2 y y' h1 h2 hr0 h3 h4 h5
    · unfold Env.add at hy
      by_cases hc : b = h.next
      · rw [if_pos hc] at hy
        cases hy
        exact hx
      · rw [if_neg hc] at hy
        exact r.lt b y hy
    · have hb'' : h.next + 1 ≤ b := hb'
      unfold Env.add
      rw [if_neg (by omega)]
      exact r.new b (by omega)
/-- an object given up: nothing in memory turns -/
theorem Rep.kill {e : Env} {h : DHeap} {w : World} (r : Rep e h w) (b : Nat) : Rep e (h.kill b) w where
  obj := fun c o hc => by
    rw [DHeap.get_kill] at hc
    by_cases hcb : c = b
    · rw [if_pos hcb] at hc; cases hc
    · rw [if_neg hcb] at hc; exact r.obj c o hc
  inj := fun c c' o1 o2 y y' h1 h2 hr0 h3 h4 h5 => by
    rw [DHeap.get_kill] at h1 h2
    by_cases hcb : c = b
    · rw [if_pos hcb] at h1; cases h1
    · by_cases hcb' : c' = b
      · rw [if_pos hcb'] at h2; cases h2
      · rw [if_neg hcb] at h1
        rw [if_neg hcb'] at h2
        exact r.inj c c' o1 o2 y y' h1 h2 hr0 h3 h4 h5
  lt := r.lt
  new := r.new
end Go.Dx
/- D: operands, types; what an operation of the model does, and what the own one does. -/
namespace Go.Dx
open Go

theorem mapM_cons_some {α β : Type} {f : α → Option β} {a : α} {l : List α} {r : List β} (h : (a :: l).mapM f = some r) : ∃ b bs, r = b :: bs ∧ f a = some b ∧ l.mapM f = some bs := by
  rw [List.mapM_cons] at h
  cases hf : f a with
  | none => simp [hf] at h
  | some b =>
    cases hl : l.mapM f with
    | none => simp [hf, hl] at h
    | some bs => simp [hf, hl] at h; exact ⟨b, bs, h.symm, rfl, rfl⟩
theorem mapM_nil_some {α β : Type} {f : α → Option β} {r : List β} (h : ([] : List α).mapM f = some r) : r = [] := by simpa using h.symm

/-- a constant -/
theorem valD_val (e : Env) : ∀ (n : Nat) (v : Value) (d : DV), valD n v = some d → val e d = some v
  | 0, _, _, h => by simp [valD] at h
  | n + 1, v, d, h => by
    have ih : ∀ (l : List Value) (r : List DV), l.mapM (valD n) = some r → vals e r = some l := by
      intro l
      induction l with
      | nil => intro r hr; rw [mapM_nil_some hr]; rfl
      | cons a l ihl =>
        intro r hr
        obtain ⟨b, bs, rfl, h1, h2⟩ := mapM_cons_some hr
        exact vals_cons_of (valD_val e n a b h1) (ihl bs h2)
    cases v with
    | bool b => simp [valD] at h; subst h; rfl
    | int k i => simp [valD] at h; subst h; rfl
    | string s => simp [valD] at h; subst h; rfl
    | pointer a => cases a <;> simp [valD] at h; subst h; rfl
    | slice a l c =>
      cases a with
      | none =>
        cases l <;> cases c <;> simp [valD] at h
        subst h; rfl
      | some a => simp [valD] at h
    | map r => cases r <;> simp [valD] at h; subst h; rfl
    | func fn a b =>
      simp only [valD] at h
      cases ha : a.toList.mapM (valD n) with
      | none => simp [ha] at h
      | some x =>
        cases hb : b.toList.mapM (valD n) with
        | none => simp [ha, hb] at h
        | some y =>
          simp [ha, hb] at h; subst h
          simp [val, ih _ _ ha, ih _ _ hb]
    | nilFunc => simp [valD] at h; subst h; rfl
    | nilIface => simp [valD] at h; subst h; rfl
    | iface t v =>
      simp only [valD, Option.map_eq_some_iff] at h
      obtain ⟨x, hx, rfl⟩ := h
      simp [val, valD_val e n v x hx]
    | agg cs =>
      simp only [valD, Option.map_eq_some_iff] at h
      obtain ⟨x, hx, rfl⟩ := h
      simp [val, ih _ _ hx]
    | tuple cs =>
      simp only [valD, Option.map_eq_some_iff] at h
      obtain ⟨x, hx, rfl⟩ := h
      simp [val, ih _ _ hx]
    | float k b => simp [valD] at h
    | complex k a b => simp [valD] at h
    | chan r => simp [valD] at h

/-- the package-level variables, and the block behind them, stand at their own numbers -/
def Glob (P : Program) (e : Env) : Prop := ∀ g, g ≤ P.globals.size → ∃ sp sz, e g = some ⟨g, 0, sp, sz⟩
theorem Glob.le {P : Program} {e e' : Env} (h : Glob P e) (l : Env.le e e') : Glob P e' := fun g hg => let ⟨a, b, c⟩ := h g hg; ⟨a, b, l _ _ c⟩
/-- a frame -/
def FrR (e : Env) (t : Fr) (tmps : Array Value) : Prop := ∀ n, val e ((t.get n).getD undefD) = some (tmps.getD n undef)
theorem FrR.le {e e' : Env} {t : Fr} {tmps : Array Value} (h : FrR e t tmps) (l : Env.le e e') : FrR e' t tmps := fun n => val_mono l _ _ (h n)
theorem undef_val (e : Env) : val e undefD = some undef := rfl
theorem FrR.ev {e : Env} {t : Fr} {a : Act} (h : FrR e t a.tmps) (n : Nat) : val e (Opd.ev t (.t n)) = some (a.eval (.tmp n)) := by
  have e1 : Opd.ev t (.t n) = (t.get n).getD undefD := by
    simp only [Opd.ev]
    cases t.get n <;> rfl
  rw [e1]
  exact h n
theorem opd_ok {P : Program} {e : Env} {t : Fr} {a : Act} (hg : Glob P e) (h : FrR e t a.tmps) {x : Operand} {y : Opd} (hx : opdD P x = some y) : val e (y.ev t) = some (a.eval x) := by
  cases x with
  | tmp n => simp [opdD] at hx; subst hx; exact h.ev n
  | const v =>
    simp only [opdD, Option.map_eq_some_iff] at hx
    obtain ⟨d, hd, rfl⟩ := hx
    exact valD_val e 4 v d hd
  | global g =>
    simp only [opdD] at hx
    split at hx
    · next hlt =>
      cases hx
      obtain ⟨sp, sz, he⟩ := hg g (Nat.le_of_lt hlt)
      show val e (.ptr g 0) = _
      simp only [val, he]
      rfl
    · cases hx
  | func f => simp [opdD] at hx; subst hx; rfl
theorem opds_ok {P : Program} {e : Env} {t : Fr} {a : Act} (hg : Glob P e) (h : FrR e t a.tmps) : ∀ {xs : List Operand} {ys : List Opd}, xs.mapM (opdD P) = some ys → vals e (ys.map (·.ev t)) = some (xs.map a.eval)
  | [], ys, hx => by rw [mapM_nil_some hx]; rfl
  | x :: xs, ys, hx => by
    obtain ⟨b, bs, rfl, h1, h2⟩ := mapM_cons_some hx
    exact vals_cons_of (opd_ok hg h h1) (opds_ok hg h h2)

/-- types -/
theorem run_sizeT {P : Program} {t : TypeId} {n : Nat} (h : sizeT P t = some n) (w : World) : (sizeOf t).run P w = .ok n w := by
  unfold sizeT at h
  cases hi : P.info? t with
  | none => simp [hi] at h
  | some i => simp [hi] at h; simp [sizeOf, typeInfo, hi, h]
theorem run_isAggT {P : Program} {t : TypeId} {d : TypeDesc} (h : P.underlying t = some d) (w : World) : (isAgg t).run P w = .ok (isAggT P t) w := by
  unfold isAgg isAggT
  rw [Sem.run_bind, run_underlying h w, h]
  cases d <;> rfl
theorem run_zeroT {P : Program} {t : TypeId} {z : DV} (h : zeroT P t = some z) (e : Env) (w : World) : ∃ v, (zeroValue t).run P w = .ok v w ∧ val e z = some v := by
  unfold zeroT at h
  cases hi : P.info? t with
  | none => simp [hi] at h
  | some i =>
    simp only [hi, Option.bind_some] at h
    cases hz : i.zero with
    | none => simp [hz] at h
    | some v =>
      simp only [hz, Option.bind_some] at h
      exact ⟨v, by simp [zeroValue, typeInfo, hi, hz], valD_val e 4 v z h⟩
end Go.Dx
