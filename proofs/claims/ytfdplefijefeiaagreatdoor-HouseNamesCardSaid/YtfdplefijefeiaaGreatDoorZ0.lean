/- D: values, a heap and a small code of our own, and an interpreter on fuel. (definitions) -/
import Derived.Calls
namespace Go.Dx
open Go

/-- a value; addresses are (own block, cell) -/
inductive DV where
  | bool (b : Bool)
  | int (k : IntKind) (n : Int)
  | str (s : List UInt8)
  | nilPtr
  | ptr (b o : Nat)
  | nilSlice
  | slice (b o z len cap : Nat) (tight : Bool)
  | clip (b o z : Nat)  -- no elements, no room; not nil
  | nilMap
  | map (r : Nat)
  | func (fn : Fn) (first captured : List DV)
  | nilFunc
  | iface (t : TypeId) (v : DV)
  | nilIface
  | agg (cs : List DV)
  | tuple (cs : List DV)
  deriving Inhabited, Repr

def DV.cells : DV → List DV
  | .agg cs => cs
  | v => [v]
def undefD : DV := .tuple []

/-- a trie by numbers -/
inductive Tr (α : Type) where
  | nil
  | node (l : Tr α) (v : Option α) (r : Tr α)
  deriving Inhabited
def Tr.get {α : Type} : Tr α → Nat → Option α
  | .nil, _ => none
  | .node l v r, n => match n with
    | 0 => v
    | m + 1 => if m % 2 = 0 then l.get (m / 2) else r.get (m / 2)
def Tr.setF {α : Type} (x : Option α) : Nat → Tr α → Nat → Tr α
  | 0, t, _ => t
  | f + 1, t, n => match t with
    | .nil => match n with
      | 0 => .node .nil x .nil
      | m + 1 => if m % 2 = 0 then .node (Tr.setF x f .nil (m / 2)) none .nil else .node .nil none (Tr.setF x f .nil (m / 2))
    | .node l v r => match n with
      | 0 => .node l x r
      | m + 1 => if m % 2 = 0 then .node (Tr.setF x f l (m / 2)) v r else .node l v (Tr.setF x f r (m / 2))
def Tr.set {α : Type} (t : Tr α) (n : Nat) (x : Option α) : Tr α := Tr.setF x (n + 1) t n

inductive DObj where
  | cells (cs : List DV) (ro : Bool) (esz : Nat)
  | map (es : List (DV × DV × Nat)) (clock : Nat)
  | strIter (s : List UInt8) (pos : Nat)
  | mapIter (m : Option Nat) (since : Nat) (seen : List Nat) (stepped : Nat)
  deriving Inhabited, Repr

structure DHeap where
  tr : Tr DObj
  next : Nat
  deriving Inhabited

def DHeap.get (h : DHeap) (b : Nat) : Option DObj := h.tr.get b
def DHeap.put (h : DHeap) (b : Nat) (o : DObj) : DHeap := ⟨h.tr.set b (some o), h.next⟩
def DHeap.kill (h : DHeap) (b : Nat) : DHeap := ⟨h.tr.set b none, h.next⟩
def DHeap.new (h : DHeap) (o : DObj) : DHeap := ⟨h.tr.set h.next (some o), h.next + 1⟩

/-- operands -/
inductive Opd where
  | t (n : Nat)
  | c (v : DV)
  deriving Inhabited, Repr

/-- how two values of a type are compared -/
inductive ETy where
  | prim (k : Nat)  -- bools, numbers, strings
  | ptr             -- pointers to things that are not of size zero
  | iface (ne : Bool)    -- an interface (with methods)
  | struct (fs : List (Nat × Nat × Bool × ETy))   -- offset, size, a struct itself
  | ref (k : Nat)   -- slices, maps, functions: with nil alone
  deriving Inhabited, Repr

inductive DOp where
  | mov (x : Opd)
  | pick (c a b : Opd)
  | alloc (zero : List DV)
  | box (x : Opd)
  | build (zero : List DV) (parts : List (Nat × Nat × Opd))
  | buildSlice (len : Nat) (cells : List DV) (parts : List (Nat × Nat × Opd))
  | load1 (a : Opd)
  | loadN (n : Nat) (a : Opd)
  | store (n : Nat) (a v : Opd)
  | bin (op : BinOp) (x y : Opd)
  | eqv (neg : Bool) (e : ETy) (x y : Opd)
  | un (op : UnOp) (x : Opd)
  | convInt (k : IntKind) (x : Opd)
  | movStr (x : Opd)
  | strBytes (x : Opd)
  | bytesStr (x : Opd)
  | mkIface (t : TypeId) (x : Opd)
  | mkFunc (fn : Fn) (first captured : List Opd)
  | mkMap
  | mkSlice (zero : List DV) (sz bytes : Nat) (len cap : Opd)
  | sliceStr (x : Opd) (lo hi : Option Opd)
  | sliceSl (sz : Nat) (x : Opd) (lo hi mx : Option Opd)
  | sliceArr (n sz : Nat) (x : Opd) (lo hi : Option Opd)
  | fieldAddr (off : Nat) (x : Opd)
  | field (off size : Nat) (isAgg : Bool) (x : Opd)
  | indexAddrA (n sz : Nat) (x i : Opd)
  | indexAddrS (sz : Nat) (x i : Opd)
  | indexStr (x i : Opd)
  | indexArr (n sz : Nat) (isAgg : Bool) (x i : Opd)
  | lookup (ks : Bool) (zero : DV) (m k : Opd) (ok : Bool)
  | mapUpdate (ks : Bool) (m k v : Opd)
  | mapEntry (ks : Bool) (zero : DV) (m k : Opd)
  | entryStore (m s v : Opd)
  | rangeStr (x : Opd)
  | rangeMap (x : Opd)
  | nextStr (it : Opd)
  | nextMap (it : Opd)
  | entry (it : Opd)
  | assertC (x : Opd) (t : TypeId) (ok : Bool) (zero : DV)
  | extract (x : Opd) (i : Nat)
  | callF (f : Nat) (args : List Opd)
  | callV (x : Opd) (args : List Opd)
  | callM (x : Opd) (name : String) (args : List Opd)
  | lenStr (x : Opd)
  | lenSl (x : Opd)
  | lenMap (x : Opd)
  | lenArr (n : Nat)
  | append (sz bytes : Nat) (zero : List DV) (x y : Opd)
  | copy (sz : Nat) (x y : Opd)
  | delete (ks : Bool) (m k : Opd)
  | minmax (isMax : Bool) (xs : List Opd)
  | nilCheck (x : Opd)
  | strish (x : Opd)
  | assertI (x : Opd) (t : TypeId) (ok : Bool)
  | capSl (x : Opd)
  | clearMap (x : Opd)
  | fail
  | skip
  deriving Inhabited, Repr

structure DOper where
  dst : Option Nat
  guard : Option (Nat × Bool)
  op : DOp
  deriving Inhabited, Repr

/-- how an operation of a region that draws is run: a pure one; one that reads, with those behind which what it read is let go; one that runs alone; a new object, which may come up at any time -/
inductive SK where
  | pure
  | read (drops : List Nat)
  | alone (j : Nat)
  | late
  deriving Inhabited, Repr

inductive DCode where
  | skip
  | region (ops : List DOper)
  | draw (ops : List (DOper × SK))
  | seq (a b : DCode)
  | cond (c : Opd) (a b : DCode)
  | block (id : Nat) (c : DCode)
  | loop (c : DCode)
  | exit (id : Nat)
  | ret
  deriving Inhabited, Repr

inductive DRes where
  | tmp (t : Nat)
  | cell (t n : Nat) (isAgg : Bool)
  deriving Inhabited, Repr

structure DFunc where
  nparams : Nat
  results : List DRes
  body : DCode
  deriving Inhabited, Repr

end Go.Dx
