/- The evaluator, part 1. -/
import Derived.Calls
/- D: values, a heap and a small code of our own, and an interpreter on fuel. (definitions) -/
namespace Go.Dx
open Go

/-- a value; addresses are (own block, cell) -/
inductive DV where
  | bool (b : Bool)
  | int (k : IntKind) (n : Int)
  | str (s : List UInt8)
  | nilPtr
  | ptr (b o : Nat)
  | nilSlice
  | slice (b o z len cap : Nat) (tight : Bool)
  | clip (b o z : Nat)  -- no elements, no room; not nil
  | nilMap
  | map (r : Nat)
  | func (fn : Fn) (first captured : List DV)
  | nilFunc
  | iface (t : TypeId) (v : DV)
  | nilIface
  | agg (cs : List DV)
  | tuple (cs : List DV)
  deriving Inhabited, Repr

def DV.cells : DV → List DV
  | .agg cs => cs
  | v => [v]
def undefD : DV := .tuple []

/-- a trie by numbers -/
inductive Tr (α : Type) where
  | nil
  | node (l : Tr α) (v : Option α) (r : Tr α)
  deriving Inhabited
def Tr.get {α : Type} : Tr α → Nat → Option α
  | .nil, _ => none
  | .node l v r, n => match n with
    | 0 => v
    | m + 1 => bif Nat.beq (m % 2) 0 then l.get (m / 2) else r.get (m / 2)
def Tr.setF {α : Type} (x : Option α) : Nat → Tr α → Nat → Tr α
  | 0, t, _ => t
  | f + 1, t, n => match t with
    | .nil => match n with
      | 0 => .node .nil x .nil
      | m + 1 => bif Nat.beq (m % 2) 0 then .node (Tr.setF x f .nil (m / 2)) none .nil else .node .nil none (Tr.setF x f .nil (m / 2))
    | .node l v r => match n with
      | 0 => .node l x r
      | m + 1 => bif Nat.beq (m % 2) 0 then .node (Tr.setF x f l (m / 2)) v r else .node l v (Tr.setF x f r (m / 2))
theorem bif_beq {β : Sort _} (n : Nat) (a b : β) : (bif Nat.beq n 0 then a else b) = if n = 0 then a else b := by
  cases n <;> rfl
def Tr.set {α : Type} (t : Tr α) (n : Nat) (x : Option α) : Tr α := Tr.setF x (n + 1) t n

inductive DObj where
  | cells (cs : List DV) (ro : Bool) (esz : Nat)
  | map (es : List (DV × DV × Nat)) (clock : Nat)
  | strIter (s : List UInt8) (pos : Nat)
  | mapIter (m : Option Nat) (since : Nat) (seen : List Nat) (stepped : Nat)
  deriving Inhabited, Repr

structure DHeap where
  tr : Tr DObj
  next : Nat
  deriving Inhabited

def DHeap.get (h : DHeap) (b : Nat) : Option DObj := h.tr.get b
def DHeap.put (h : DHeap) (b : Nat) (o : DObj) : DHeap := ⟨h.tr.set b (some o), h.next⟩
def DHeap.kill (h : DHeap) (b : Nat) : DHeap := ⟨h.tr.set b none, h.next⟩
def DHeap.new (h : DHeap) (o : DObj) : DHeap := ⟨h.tr.set h.next (some o), h.next + 1⟩

/-- operands -/
inductive Opd where
  | t (n : Nat)
  | c (v : DV)
  deriving Inhabited, Repr

/-- how two values of a type are compared -/
inductive ETy where
  | prim (k : Nat)  -- bools, numbers, strings
  | ptr             -- pointers to things that are not of size zero
  | iface (ne : Bool)    -- an interface (with methods)
  | struct (fs : List (Nat × Nat × Bool × ETy))   -- offset, size, a struct itself
  | ref (k : Nat)   -- slices, maps, functions: with nil alone
  deriving Inhabited, Repr

inductive DOp where
  | mov (x : Opd)
  | pick (c a b : Opd)
  | alloc (zero : List DV)
  | box (x : Opd)
  | build (zero : List DV) (parts : List (Nat × Nat × Opd))
  | buildSlice (len : Nat) (cells : List DV) (parts : List (Nat × Nat × Opd))
  | load1 (a : Opd)
  | loadN (n : Nat) (a : Opd)
  | store (n : Nat) (a v : Opd)
  | bin (op : BinOp) (x y : Opd)
  | eqv (neg : Bool) (e : ETy) (x y : Opd)
  | un (op : UnOp) (x : Opd)
  | convInt (k : IntKind) (x : Opd)
  | movStr (x : Opd)
  | strBytes (x : Opd)
  | bytesStr (x : Opd)
  | mkIface (t : TypeId) (x : Opd)
  | mkFunc (fn : Fn) (first captured : List Opd)
  | mkMap
  | mkSlice (zero : List DV) (sz bytes : Nat) (len cap : Opd)
  | sliceStr (x : Opd) (lo hi : Option Opd)
  | sliceSl (sz : Nat) (x : Opd) (lo hi mx : Option Opd)
  | sliceArr (n sz : Nat) (x : Opd) (lo hi : Option Opd)
  | fieldAddr (off : Nat) (x : Opd)
  | field (off size : Nat) (isAgg : Bool) (x : Opd)
  | indexAddrA (n sz : Nat) (x i : Opd)
  | indexAddrS (sz : Nat) (x i : Opd)
  | indexStr (x i : Opd)
  | indexArr (n sz : Nat) (isAgg : Bool) (x i : Opd)
  | lookup (ks : Bool) (zero : DV) (m k : Opd) (ok : Bool)
  | mapUpdate (ks : Bool) (m k v : Opd)
  | mapEntry (ks : Bool) (zero : DV) (m k : Opd)
  | entryStore (m s v : Opd)
  | rangeStr (x : Opd)
  | rangeMap (x : Opd)
  | nextStr (it : Opd)
  | nextMap (it : Opd)
  | entry (it : Opd)
  | assertC (x : Opd) (t : TypeId) (ok : Bool) (zero : DV)
  | extract (x : Opd) (i : Nat)
  | callF (f : Nat) (args : List Opd)
  | callV (x : Opd) (args : List Opd)
  | callM (x : Opd) (name : String) (args : List Opd)
  | lenStr (x : Opd)
  | lenSl (x : Opd)
  | lenMap (x : Opd)
  | lenArr (n : Nat)
  | append (sz bytes : Nat) (zero : List DV) (x y : Opd)
  | copy (sz : Nat) (x y : Opd)
  | delete (ks : Bool) (m k : Opd)
  | minmax (isMax : Bool) (xs : List Opd)
  | nilCheck (x : Opd)
  | strish (x : Opd)
  | assertI (x : Opd) (t : TypeId) (ok : Bool)
  | capSl (x : Opd)
  | clearMap (x : Opd)
  | fail
  | skip
  deriving Inhabited, Repr

structure DOper where
  dst : Option Nat
  guard : Option (Nat × Bool)
  op : DOp
  deriving Inhabited, Repr

/-- how an operation of a region that draws is run: a pure one; one that reads, with those behind which what it read is let go; one that runs alone; a new object, which may come up at any time -/
inductive SK where
  | pure
  | read (drops : List Nat)
  | alone (j : Nat)
  | late
  deriving Inhabited, Repr

inductive DCode where
  | skip
  | region (ops : List DOper)
  | draw (ops : List (DOper × SK))
  | seq (a b : DCode)
  | cond (c : Opd) (a b : DCode)
  | block (id : Nat) (c : DCode)
  | loop (c : DCode)
  | exit (id : Nat)
  | ret
  deriving Inhabited, Repr

inductive DRes where
  | tmp (t : Nat)
  | cell (t n : Nat) (isAgg : Bool)
  deriving Inhabited, Repr

structure DFunc where
  nparams : Nat
  results : List DRes
  body : DCode
  deriving Inhabited, Repr

end Go.Dx
/- D: the interpreter. -/
namespace Go.Dx
open Go

def wrapD (k : IntKind) (n : Int) : Int :=
  match k with
  | .i64 => if -9223372036854775808 ≤ n ∧ n ≤ 9223372036854775807 then n else k.wrap n
  | .u8 => if 0 ≤ n ∧ n ≤ 255 then n else k.wrap n
  | .u64 => if 0 ≤ n ∧ n ≤ 18446744073709551615 then n else k.wrap n
  | .u32 => if 0 ≤ n ∧ n ≤ 4294967295 then n else k.wrap n
  | .i32 => if -2147483648 ≤ n ∧ n ≤ 2147483647 then n else k.wrap n
  | _ => k.wrap n

def bytesEq : List UInt8 → List UInt8 → Bool
  | [], [] => true
  | a :: x, b :: y => a.toNat == b.toNat && bytesEq x y
  | _, _ => false
def bytesLt : List UInt8 → List UInt8 → Bool
  | _, [] => false
  | [], _ :: _ => true
  | a :: x, b :: y => if a.toNat < b.toNat then true else if a.toNat = b.toNat then bytesLt x y else false

def binD (op : BinOp) : DV → DV → Option DV
  | .int k a, .int k' b =>
    match op with
    | .shl => if b < 0 then none else some (.int k (k.wrap (a * 2 ^ (min b.toNat k.bits))))
    | .shr => if b < 0 then none else some (.int k (a.fdiv (2 ^ (min b.toNat k.bits))))
    | op => if k ≠ k' then none else
      match op with
      | .add => some (.int k (wrapD k (a + b)))
      | .sub => some (.int k (wrapD k (a - b)))
      | .mul => some (.int k (wrapD k (a * b)))
      | .quo => if b = 0 then none else some (.int k (wrapD k (a.tdiv b)))
      | .rem => if b = 0 then none else some (.int k (a.tmod b))
      | .and => some (.int k (k.wrap (BitVec.ofInt k.bits a &&& BitVec.ofInt k.bits b).toNat))
      | .or => some (.int k (k.wrap (BitVec.ofInt k.bits a ||| BitVec.ofInt k.bits b).toNat))
      | .xor => some (.int k (k.wrap (BitVec.ofInt k.bits a ^^^ BitVec.ofInt k.bits b).toNat))
      | .andNot => some (.int k (k.wrap (BitVec.ofInt k.bits a &&& ~~~ BitVec.ofInt k.bits b).toNat))
      | .eql => some (.bool (decide (a = b)))
      | .neq => some (.bool (!decide (a = b)))
      | .lss => some (.bool (decide (a < b)))
      | .leq => some (.bool (decide (a ≤ b)))
      | .gtr => some (.bool (decide (b < a)))
      | .geq => some (.bool (decide (b ≤ a)))
      | _ => none
  | .str x, .str y =>
    match op with
    | .add => if x.length + y.length ≤ 1073741824 then some (.str (x ++ y)) else none
    | .eql => some (.bool (bytesEq x y))
    | .neq => some (.bool (!bytesEq x y))
    | .lss => some (.bool (bytesLt x y))
    | .leq => some (.bool (!bytesLt y x))
    | .gtr => some (.bool (bytesLt y x))
    | .geq => some (.bool (!bytesLt x y))
    | _ => none
  | _, _ => none

def live (h : DHeap) (b : Nat) : Bool := match h.get b with | some (.cells ..) => true | _ => false

def sub (cs : List DV) (o n : Nat) : List DV := (cs.drop o).take n
def partD (cs : List DV) (o n : Nat) (isAgg : Bool) : Option DV :=
  if isAgg then (if o + n ≤ cs.length then some (.agg (sub cs o n)) else none) else cs[o]?

/-- parts of two structs, one behind the other -/
def goEq (f : ETy → DV → DV → Option Bool) (xs ys : List DV) : List (Nat × Nat × Bool × ETy) → Option Bool
  | [] => some true
  | (o, n, isAgg, e) :: fs =>
    match partD xs o n isAgg, partD ys o n isAgg with
    | some x, some y =>
      match f e x y with
      | some true => goEq f xs ys fs
      | some false => some false
      | none => none
    | _, _ => none
def eqBool : DV → DV → Option Bool
  | .bool a, .bool b => some (a == b)
  | _, _ => none
def eqInt : DV → DV → Option Bool
  | .int k a, .int k' b => if k = k' then some (decide (a = b)) else none
  | _, _ => none
def eqStr : DV → DV → Option Bool
  | .str a, .str b => some (bytesEq a b)
  | _, _ => none
def eqPtr : DV → DV → Option Bool
  | .nilPtr, .nilPtr => some true
  | .nilPtr, .ptr _ _ => some false
  | .ptr _ _, .nilPtr => some false
  | .ptr a i, .ptr b j => if a = b then some (decide (i = j)) else none
  | _, _ => none
def eqSl : DV → DV → Option Bool
  | .nilSlice, .nilSlice => some true
  | .nilSlice, .slice .. => some false
  | .slice .., .nilSlice => some false
  | _, _ => none
def eqMap : DV → DV → Option Bool
  | .nilMap, .nilMap => some true
  | .nilMap, .map _ => some false
  | .map _, .nilMap => some false
  | _, _ => none
def eqFn : DV → DV → Option Bool
  | .nilFunc, .nilFunc => some true
  | .nilFunc, .func .. => some false
  | .func .., .nilFunc => some false
  | _, _ => none
def eqIf (et : TypeId → Option ETy) (f : ETy → DV → DV → Option Bool) (ne : Bool) : DV → DV → Option Bool
  | .nilIface, .nilIface => if ne then none else some true
  | .nilIface, .iface _ _ => some false
  | .iface _ _, .nilIface => some false
  | .iface t v, .iface u w => if t ≠ u then some false else match et t with
    | some e' => f e' v w
    | none => none
  | _, _ => none
def eqAgg (f : ETy → DV → DV → Option Bool) (fs : List (Nat × Nat × Bool × ETy)) : DV → DV → Option Bool
  | .agg xs, .agg ys => goEq f xs ys fs
  | _, _ => none
/-- are two values of a type equal? -/
def eqD (et : TypeId → Option ETy) : Nat → ETy → DV → DV → Option Bool
  | 0, _, _, _ => none
  | d + 1, e, x, y =>
    match e with
    | .prim 0 => eqBool x y
    | .prim 1 => eqInt x y
    | .prim _ => eqStr x y
    | .ptr => eqPtr x y
    | .iface ne => eqIf et (eqD et d) ne x y
    | .ref 0 => eqSl x y
    | .ref 1 => eqMap x y
    | .ref _ => eqFn x y
    | .struct fs => eqAgg (eqD et d) fs x y

/-- a row of cells written over from a place on -/
def put (cs : List DV) (o : Nat) (vs : List DV) : List DV := cs.take o ++ vs ++ cs.drop (o + vs.length)
def loadD (h : DHeap) (b o n : Nat) : Option (List DV) :=
  match h.get b with
  | some (.cells cs _ _) => if o + n ≤ cs.length then some (sub cs o n) else none
  | _ => none
def DV.one : DV → Bool
  | .agg _ => false
  | .tuple _ => false
  | _ => true
def storeD (h : DHeap) (b o : Nat) (vs : List DV) : Option DHeap :=
  match h.get b with
  | some (.cells cs false k) => if o + vs.length ≤ cs.length ∧ vs.all DV.one = true then some (h.put b (.cells (put cs o vs) false k)) else none
  | _ => none
def fillD (t : List DV) : List (Nat × Nat × DV) → Option (List DV)
  | [] => some t
  | (o, n, v) :: ps => if v.cells.length = n ∧ o + n ≤ t.length then fillD (put t o v.cells) ps else none

/-- keys of maps: numbers and strings -/
def keyEq (ks : Bool) : DV → DV → Option Bool
  | .int k a, .int k' b => if ks then none else if k = k' then some (decide (a = b)) else none
  | .str a, .str b => if ks then some (bytesEq a b) else none
  | _, _ => none
def findD (ks : Bool) (k : DV) : List (DV × DV × Nat) → Option (Option (DV × Nat))
  | [] => some none
  | (k', v, n) :: es =>
    match keyEq ks k k' with
    | some true => some (some (v, n))
    | some false => findD ks k es
    | none => none
def setD (ks : Bool) (k v : DV) : List (DV × DV × Nat) → List (DV × DV × Nat)
  | [] => []
  | (k', v', n) :: es => match keyEq ks k k' with
    | some true => (k, v, n) :: es
    | _ => (k', v', n) :: setD ks k v es
def delD (ks : Bool) (k : DV) : List (DV × DV × Nat) → List (DV × DV × Nat)
  | [] => []
  | (k', v', n) :: es => match keyEq ks k k' with
    | some true => es
    | _ => (k', v', n) :: delD ks k es
def foundOr (z : DV) : Option (DV × Nat) → DV
  | some (v, _) => v
  | none => z
def mapFind (h : DHeap) (ks : Bool) (m k : DV) : Option (Option (DV × Nat)) :=
  match m with
  | .nilMap => some none
  | .map r => match h.get r with
    | some (.map es _) => findD ks k es
    | _ => none
  | _ => none
def stampD (s : Nat) (v : DV) : List (DV × DV × Nat) → Option (List (DV × DV × Nat))
  | [] => none
  | (k', v', n) :: es => if n = s then some ((k', v, n) :: es) else (stampD s v es).map ((k', v', n) :: ·)

def natOf : DV → Option Nat
  | .int _ (.ofNat n) => some n
  | _ => none

inductive Recv where
  | same
  | deref (n : Nat) (isAgg : Bool)
  deriving Inhabited, Repr

structure DProg where
  funcs : Nat → Option DFunc
  etys : TypeId → Option ETy
  methods : TypeId → String → Option (Nat × Recv)
  impl : TypeId → TypeId → Option Bool
  spec : Nat → Option (List DV → DHeap → Option (DV × DHeap))

abbrev Fr := Tr DV
def Opd.ev (t : Fr) : Opd → DV
  | .t n => match t.get n with | some v => v | none => undefD
  | .c v => v

inductive Nx where
  | same (v : DV)
  | val (v : DV) (h : DHeap)
  | call (f : Nat) (args : List DV) (h : DHeap)

def boundsD (len cap : Nat) (lo hi mx : Option DV) : Option (Nat × Nat × Nat) :=
  match (match mx with | none => some cap | some v => natOf v) with
  | none => none
  | some m =>
    match (match hi with | none => some len | some v => natOf v) with
    | none => none
    | some h =>
      match (match lo with | none => some 0 | some v => natOf v) with
      | none => none
      | some l => if l ≤ h ∧ h ≤ m ∧ m ≤ cap then some (l, h, m) else none

/-- the cells of what is appended or copied -/
def srcD (h : DHeap) (sz n : Nat) : DV → Option (List DV)
  | .nilSlice => some []
  | .slice b o _ _ cap _ => if n ≤ cap then loadD h b o (n * sz) else none
  | .str s => if sz = 1 then some ((s.take n).map fun b => .int .u8 b.toNat) else none
  | _ => none
def lenD : DV → Option Nat
  | .nilSlice => some 0
  | .slice _ _ _ len _ _ => some len
  | .str s => some s.length
  | _ => none
def rowIs (h : DHeap) (b n sz : Nat) : Bool := match h.get b with | some (.cells cs false k) => decide (cs.length = n) && decide (k = sz) | _ => false

def appendD (h : DHeap) (sz bytes : Nat) (x y : DV) : Option (DV × DHeap) :=
  match lenD y with
  | none => none
  | some m =>
    match srcD h sz m y with
    | none => none
    | some new =>
      if new.all DV.one = false then none else
      match x with
      | .nilSlice => if m = 0 then some (.nilSlice, h) else
        if m ≤ 1073741824 ∧ m * bytes ≤ 1073741824 then some (.slice h.next 0 0 m m false, h.new (.cells new false sz)) else none
      | .slice b o z len cap tight =>
        if len + m ≤ cap then
          if m = 0 then some (x, h) else
          match storeD h b (o + len * sz) new with
          | some h' => some (.slice b o z (len + m) cap tight, h')
          | none => none
        else if len + m ≤ 1073741824 ∧ (len + m) * bytes ≤ 1073741824 then
          match (if len ≤ cap then loadD h b o (len * sz) else none) with
          | none => none
          | some old =>
            if tight then some (.slice h.next 0 0 (len + m) (len + m) false, h.new (.cells (old ++ new) false sz))
            else if rowIs h b (o + cap * sz) sz = true then
              let h' := h.kill b
              some (.slice h'.next 0 0 (len + m) (len + m) false, h'.new (.cells (old ++ new) false sz))
            else none
        else none
      | .clip b o z => if m = 0 then some (.clip b o z, h) else
        if m ≤ 1073741824 ∧ m * bytes ≤ 1073741824 then some (.slice h.next 0 0 m m false, h.new (.cells new false sz)) else none
      | _ => none

def minmaxD (isMax : Bool) : DV → List DV → Option DV
  | x, [] => some x
  | .int k a, .int k' b :: r => if k = k' then minmaxD isMax (.int k (if isMax then (if a < b then b else a) else (if b < a then b else a))) r else none
  | _, _ => none

def decodeD (s : List UInt8) : Option (Nat × Nat) :=
  match s with
  | b :: _ => if b.toNat < 128 then some (b.toNat, 1) else none
  | [] => none

def bytesOfD : List DV → Option (List UInt8)
  | [] => some []
  | .int .u8 (.ofNat n) :: r => if n < 256 then match bytesOfD r with | some l => some (UInt8.ofNat n :: l) | none => none else none
  | _ => none
def opD (P : DProg) (t : Fr) (h : DHeap) : DOp → Option Nx
  | .mov x => some (.same (x.ev t))
  | .pick c a b => match c.ev t with
    | .bool true => some (.same (a.ev t))
    | .bool false => some (.same (b.ev t))
    | _ => none
  | .alloc z => some (.val (.ptr h.next 0) (h.new (.cells z false 0)))
  | .box x => some (.val (.ptr h.next 0) (h.new (.cells (x.ev t).cells false 0)))
  | .build z ps => match fillD z (ps.map fun p => (p.1, p.2.1, p.2.2.ev t)) with
    | some cs => some (.same (.agg cs))
    | none => none
  | .buildSlice n z ps => match fillD z (ps.map fun p => (p.1, p.2.1, p.2.2.ev t)) with
    | some cs => some (.val (.slice h.next 0 0 n n true) (h.new (.cells cs false 0)))
    | none => none
  | .load1 a => match a.ev t with
    | .ptr b o => match loadD h b o 1 with
      | some [v] => some (.same v)
      | _ => none
    | _ => none
  | .loadN n a => match a.ev t with
    | .ptr b o => match loadD h b o n with
      | some cs => some (.same (.agg cs))
      | none => none
    | _ => none
  | .store n a v => match a.ev t with
    | .ptr b o => if (v.ev t).cells.length = n then match storeD h b o (v.ev t).cells with
        | some h' => some (.val undefD h')
        | none => none
      else none
    | _ => none
  | .bin op x y => match binD op (x.ev t) (y.ev t) with
    | some v => some (.same v)
    | none => none
  | .eqv neg e x y => match eqD P.etys 20 e (x.ev t) (y.ev t) with
    | some b => some (.same (.bool (b != neg)))
    | none => none
  | .un op x => match op, x.ev t with
    | .neg, .int k n => some (.same (.int k (wrapD k (0 - n))))
    | .not, .bool b => some (.same (.bool !b))
    | .xor, .int k n => some (.same (.int k (k.wrap (BitVec.ofInt k.bits (if k.signed then -1 else k.max) ^^^ BitVec.ofInt k.bits n).toNat)))
    | _, _ => none
  | .convInt k x => match x.ev t with
    | .int _ n => some (.same (.int k (wrapD k n)))
    | _ => none
  | .movStr x => match x.ev t with
    | .str s => some (.same (.str s))
    | _ => none
  | .strBytes x => match x.ev t with
    | .str s => some (.val (.slice h.next 0 0 s.length s.length false) (h.new (.cells (s.map fun b => .int .u8 b.toNat) false 1)))
    | _ => none
  | .bytesStr x => match x.ev t with
    | .nilSlice => some (.same (.str []))
    | .slice b o _ len cap _ => match (if len ≤ cap then loadD h b o len else none) with
      | some cs => match bytesOfD cs with
        | some s => some (.same (.str s))
        | none => none
      | none => none
    | _ => none
  | .mkIface ty x => some (.same (.iface ty (x.ev t)))
  | .mkFunc fn a b => some (.same (.func fn (a.map (·.ev t)) (b.map (·.ev t))))
  | .mkMap => some (.val (.map h.next) (h.new (.map [] 0)))
  | .mkSlice z sz bytes l c => match natOf (l.ev t), natOf (c.ev t) with
    | some l, some c => if l ≤ c ∧ c ≤ 1073741824 ∧ bytes * c ≤ 1073741824 ∧ z.length = sz then some (.val (.slice h.next 0 0 l c true) (h.new (.cells (List.replicate c z).flatten false 0))) else none
    | _, _ => none
  | .sliceStr x lo hi => match x.ev t with
    | .str s => match boundsD s.length s.length (lo.map (·.ev t)) (hi.map (·.ev t)) none with
      | some (l, r, _) => some (.same (.str ((s.drop l).take (r - l))))
      | none => none
    | _ => none
  | .sliceSl sz x lo hi mx => match x.ev t with
    | .nilSlice => match boundsD 0 0 (lo.map (·.ev t)) (hi.map (·.ev t)) (mx.map (·.ev t)) with
      | some _ => some (.same .nilSlice)
      | none => none
    | .slice b o z len cap tight => match boundsD len cap (lo.map (·.ev t)) (hi.map (·.ev t)) (mx.map (·.ev t)) with
      | some (l, r, m) => if mx.isSome then (if cap = 0 && !tight then some (.same (.clip b o z)) else some (.same (.slice b (o + l * sz) (if cap = 0 then z else o) (r - l) (m - l) true)))
        else some (.same (.slice b (o + l * sz) (if cap = 0 then z else o) (r - l) (m - l) tight))
      | none => none
    | _ => none
  | .sliceArr n sz x lo hi => match x.ev t with
    | .ptr b o => match boundsD n n (lo.map (·.ev t)) (hi.map (·.ev t)) none with
      | some (l, r, m) => some (.same (.slice b (if m = l then o else o + l * sz) (if m = l then o else o + l * sz) (r - l) (m - l) true))
      | none => none
    | _ => none
  | .fieldAddr off x => match x.ev t with
    | .ptr b o => some (.same (.ptr b (o + off)))
    | _ => none
  | .field off n isAgg x => match x.ev t with
    | .agg cs => match partD cs off n isAgg with
      | some v => some (.same v)
      | none => none
    | _ => none
  | .indexAddrA n sz x i => match x.ev t, natOf (i.ev t) with
    | .ptr b o, some k => if k < n then some (.same (.ptr b (o + k * sz))) else none
    | _, _ => none
  | .indexAddrS sz x i => match x.ev t, natOf (i.ev t) with
    | .slice b o _ len cap _, some k => if k < len ∧ k < cap then some (.same (.ptr b (o + k * sz))) else none
    | _, _ => none
  | .indexStr x i => match x.ev t, natOf (i.ev t) with
    | .str s, some k => match s[k]? with
      | some b => some (.same (.int .u8 b.toNat))
      | none => none
    | _, _ => none
  | .indexArr n sz isAgg x i => match x.ev t, natOf (i.ev t) with
    | .agg cs, some k => if k < n then match partD cs (k * sz) sz isAgg with
        | some v => some (.same v)
        | none => none
      else none
    | _, _ => none
  | .lookup ks z m k ok => match mapFind h ks (m.ev t) (k.ev t) with
    | none => none
    | some res => some (.same (if ok then .tuple [foundOr z res, .bool res.isSome] else foundOr z res))
  | .mapUpdate ks m k v => match m.ev t with
    | .map r => match h.get r with
      | some (.map es cl) => match findD ks (k.ev t) es with
        | some (some _) => some (.val undefD (h.put r (.map (setD ks (k.ev t) (v.ev t) es) cl)))
        | some none => some (.val undefD (h.put r (.map (es ++ [(k.ev t, v.ev t, cl)]) (cl + 1))))
        | none => none
      | _ => none
    | _ => none
  | .mapEntry ks z m k => match m.ev t with
    | .map r => match h.get r with
      | some (.map es cl) => match findD ks (k.ev t) es with
        | some (some (v, n)) => some (.val (.tuple [v, .int .i64 n]) (h.put r (.map (setD ks (k.ev t) v es) cl)))
        | some none => some (.val (.tuple [z, .int .i64 cl]) (h.put r (.map (es ++ [(k.ev t, z, cl)]) (cl + 1))))
        | none => none
      | _ => none
    | _ => none
  | .entryStore m s v => match m.ev t, natOf (s.ev t) with
    | .map r, some n => match h.get r with
      | some (.map es cl) => match stampD n (v.ev t) es with
        | some es' => some (.val undefD (h.put r (.map es' cl)))
        | none => none
      | _ => none
    | _, _ => none
  | .rangeStr x => match x.ev t with
    | .str s => some (.val (.ptr h.next 0) (h.new (.strIter s 0)))
    | _ => none
  | .rangeMap x => match x.ev t with
    | .nilMap => some (.val (.ptr h.next 0) (h.new (.mapIter none 0 [] 0)))
    | .map r => match h.get r with
      | some (.map _ cl) => some (.val (.ptr h.next 0) (h.new (.mapIter (some r) cl [] cl)))
      | _ => none
    | _ => none
  | .nextStr it => match it.ev t with
    | .ptr r 0 => match h.get r with
      | some (.strIter s p) => if p < s.length then match decodeD (s.drop p) with
          | some (c, wd) => some (.val (.tuple [.bool true, .int .i64 p, .int .i32 c]) (h.put r (.strIter s (p + wd))))
          | none => none
        else some (.same (.tuple [.bool false]))
      | _ => none
    | _ => none
  | .nextMap it => match it.ev t with
    | .ptr r 0 => match h.get r with
      | some (.mapIter none _ _ _) => some (.same (.tuple [.bool false]))
      | some (.mapIter (some m) since seen last) => match h.get m with
        | some (.map es cl) =>
          if !seen.isEmpty && !es.isEmpty && es.all (fun e => decide (last ≤ e.2.2)) then none else
          match es.filter (fun e => !seen.contains e.2.2) with
          | [] => some (.same (.tuple [.bool false]))
          | [(k, v, n)] => if n < since then some (.val (.tuple [.bool true, k, v]) (h.put r (.mapIter (some m) since (seen ++ [n]) cl))) else none
          | _ => none
        | _ => none
      | _ => none
    | _ => none
  | .entry it => match it.ev t with
    | .ptr r 0 => match h.get r with
      | some (.mapIter (some m) _ seen stepped) => match h.get m, seen.getLast? with
        | some (.map es cl), some s => if cl = stepped then match es.find? (fun e => e.2.2 == s) with
            | some (k, v, _) => some (.same (.tuple [k, v]))
            | none => none
          else none
        | _, _ => none
      | _ => none
    | _ => none
  | .assertC x ty ok z => match x.ev t with
    | .nilIface => if ok then some (.same (.tuple [z, .bool false])) else none
    | .iface u v => if u = ty then some (.same (if ok then .tuple [v, .bool true] else v)) else if ok then some (.same (.tuple [z, .bool false])) else none
    | _ => none
  | .extract x i => match x.ev t with
    | .tuple vs => match vs[i]? with
      | some v => some (.same v)
      | none => none
    | _ => none
  | .callF f args => some (.call f (args.map (·.ev t)) h)
  | .callV x args => match x.ev t with
    | .func (.func f) first captured => some (.call f (first ++ args.map (·.ev t) ++ captured) h)
    | _ => none
  | .callM x name args => match x.ev t with
    | .iface ty v => match P.methods ty name with
      | some (f, .same) => some (.call f (v :: args.map (·.ev t)) h)
      | some (_, .deref _ _) => none
      | none => none
    | _ => none
  | .lenStr x => match x.ev t with
    | .str s => some (.same (.int .i64 s.length))
    | _ => none
  | .lenSl x => match x.ev t with
    | .nilSlice => some (.same (.int .i64 0))
    | .clip _ _ _ => some (.same (.int .i64 0))
    | .slice _ _ _ len _ _ => some (.same (.int .i64 len))
    | _ => none
  | .lenMap x => match x.ev t with
    | .nilMap => some (.same (.int .i64 0))
    | .map r => match h.get r with
      | some (.map es _) => some (.same (.int .i64 es.length))
      | _ => none
    | _ => none
  | .lenArr n => some (.same (.int .i64 n))
  | .append sz bytes _ x y => match appendD h sz bytes (x.ev t) (y.ev t) with
    | some (v, h') => some (.val v h')
    | none => none
  | .copy sz x y => match lenD (x.ev t), lenD (y.ev t) with
    | some a, some b => match srcD h sz (min b a) (y.ev t) with
      | some cs => match x.ev t with
        | .nilSlice => some (.same (.int .i64 0))
        | .slice bl o _ len cap _ => if len ≤ cap then match storeD h bl o cs with
            | some h' => some (.val (.int .i64 (min b a : Nat)) h')
            | none => none
          else none
        | _ => none
      | none => none
    | _, _ => none
  | .delete ks m k => match m.ev t with
    | .nilMap => some (.same undefD)
    | .map r => match h.get r with
      | some (.map es cl) => match findD ks (k.ev t) es with
        | some _ => some (.val undefD (h.put r (.map (delD ks (k.ev t) es) cl)))
        | none => none
      | _ => none
    | _ => none
  | .minmax b xs => match xs.map (·.ev t) with
    | x :: r => match minmaxD b x r with
      | some v => some (.same v)
      | none => none
    | [] => none
  | .nilCheck x => match x.ev t with
    | .nilPtr => none
    | .nilIface => none
    | .nilFunc => none
    | .func (.method _) _ _ => none
    | v => some (.same v)
  | .strish x => match x.ev t with
    | .nilSlice => none
    | .slice b o z len cap tight => match h.get b with
      | some (.cells cs false k) => some (.val (.slice b o z len cap tight) (h.put b (.cells cs false k)))
      | _ => none
    | _ => none
  | .assertI x u ok => match x.ev t with
    | .nilIface => if ok then some (.same (.tuple [.nilIface, .bool false])) else none
    | .iface ty v => match P.impl ty u with
      | some true => some (.same (if ok then .tuple [.iface ty v, .bool true] else .iface ty v))
      | some false => if ok then some (.same (.tuple [.nilIface, .bool false])) else none
      | none => none
    | _ => none
  | .capSl x => match x.ev t with
    | .nilSlice => some (.same (.int .i64 0))
    | .slice _ _ _ _ cap true => some (.same (.int .i64 cap))
    | _ => none
  | .clearMap x => match x.ev t with
    | .nilMap => some (.same undefD)
    | .map r => match h.get r with
      | some (.map _ cl) => some (.val undefD (h.put r (.map [] cl)))
      | _ => none
    | _ => none
  | .fail => none
  | .skip => some (.same undefD)

inductive Ex where
  | normal
  | exit (id : Nat)
  | ret

abbrev Caller := Nat → List DV → DHeap → Option (DV × DHeap)
def wantedD (g : Option (Nat × Bool)) (t : Fr) : Bool :=
  match g with
  | none => true
  | some (j, b) => match t.get j with
    | some (.bool c) => c == b
    | _ => false
def Fr.put (t : Fr) (d : Option Nat) (v : DV) : Fr := match d with | some d => Tr.set t d (some v) | none => t

def regionD (P : DProg) (call : Caller) : List DOper → Fr → DHeap → Option (Fr × DHeap)
  | [], t, h => some (t, h)
  | o :: os, t, h =>
    if wantedD o.guard t then
      match opD P t h o.op with
      | some (.same v) => regionD P call os (Fr.put t o.dst v) h
      | some (.val v h') => regionD P call os (Fr.put t o.dst v) h'
      | some (.call f args h') => match call f args h' with
        | some (v, h'') => regionD P call os (Fr.put t o.dst v) h''
        | none => none
      | none => none
    else regionD P call os (Fr.put t o.dst undefD) h

/-- equality of plain values -/
def eqS : DV → DV → Bool
  | .bool a, .bool b => a == b
  | .int k a, .int l b => decide (k = l) && decide (a = b)
  | .str a, .str b => decide (a = b)
  | .nilPtr, .nilPtr => true
  | .ptr a b, .ptr c d => Nat.beq a c && Nat.beq b d
  | .nilSlice, .nilSlice => true
  | .slice a b c d e f, .slice a' b' c' d' e' f' => Nat.beq a a' && Nat.beq b b' && Nat.beq c c' && Nat.beq d d' && Nat.beq e e' && f == f'
  | .nilMap, .nilMap => true
  | .map a, .map b => Nat.beq a b
  | .nilFunc, .nilFunc => true
  | .nilIface, .nilIface => true
  | _, _ => false
def eqL (f : DV → DV → Bool) : List DV → List DV → Bool
  | [], [] => true
  | a :: as, b :: bs => f a b && eqL f as bs
  | _, _ => false
def eqV (f : DV → DV → Bool) : DV → DV → Bool
  | .iface t a, .iface u b => Nat.beq t u && f a b
  | .agg a, .agg b => eqL f a b
  | .tuple a, .tuple b => eqL f a b
  | a, b => eqS a b
def eqDV (a b : DV) : Bool := eqV (eqV eqS) a b
abbrev HeldL := List (DOp × Fr × DV × List Nat)
/-- what has been read is still so -/
def heldD (P : DProg) (h : DHeap) : HeldL → Bool
  | [] => true
  | (o, t, v, _) :: l => (match opD P t h o with | some (.same u) => eqDV u v | _ => false) && heldD P h l
def dropD (j : Nat) : HeldL → HeldL
  | [] => []
  | x :: l => if x.2.2.2.contains j then dropD j l else x :: dropD j l
/-- a region that draws, by its schedule -/
def drawD (P : DProg) (call : Caller) : List (DOper × SK) → HeldL → Fr → DHeap → Option (Fr × DHeap)
  | [], _, t, h => some (t, h)
  | (o, .alone j) :: os, held, t, h => match regionD P call [o] t h with
    | some (t', h') => if heldD P h' (dropD j held) then drawD P call os (dropD j held) t' h' else none
    | none => none
  | (o, .late) :: os, held, t, h => match regionD P call [o] t h with
    | some (t', h') => if heldD P h' held then drawD P call os held t' h' else none
    | none => none
  | (o, .pure) :: os, held, t, h =>
    if wantedD o.guard t then
      match opD P t h o.op with
      | some (.same v) => drawD P call os held (Fr.put t o.dst v) h
      | _ => none
    else drawD P call os held (Fr.put t o.dst undefD) h
  | (o, .read ds) :: os, held, t, h =>
    if wantedD o.guard t then
      match opD P t h o.op with
      | some (.same v) => drawD P call os ((o.op, t, v, ds) :: held) (Fr.put t o.dst v) h
      | _ => none
    else drawD P call os held (Fr.put t o.dst undefD) h

def iterD (body : Fr → DHeap → Option (Ex × Fr × DHeap)) : Nat → Fr → DHeap → Option (Ex × Fr × DHeap)
  | 0, _, _ => none
  | n + 1, t, h => match body t h with
    | some (.normal, t', h') => iterD body n t' h'
    | r => r

def codeD (P : DProg) (call : Caller) (fuel : Nat) : DCode → Fr → DHeap → Option (Ex × Fr × DHeap)
  | .skip, t, h => some (.normal, t, h)
  | .region ops, t, h => match regionD P call ops t h with
    | some (t', h') => some (.normal, t', h')
    | none => none
  | .draw ops, t, h => match drawD P call ops [] t h with
    | some (t', h') => some (.normal, t', h')
    | none => none
  | .seq a b, t, h => match codeD P call fuel a t h with
    | some (.normal, t', h') => codeD P call fuel b t' h'
    | r => r
  | .cond c a b, t, h => match c.ev t with
    | .bool true => codeD P call fuel a t h
    | .bool false => codeD P call fuel b t h
    | _ => none
  | .block id c, t, h => match codeD P call fuel c t h with
    | some (.exit i, t', h') => if i = id then some (.normal, t', h') else some (.exit i, t', h')
    | r => r
  | .loop c, t, h => iterD (codeD P call fuel c) fuel t h
  | .exit id, t, h => some (.exit id, t, h)
  | .ret, t, h => some (.ret, t, h)

def resD (t : Fr) (h : DHeap) : DRes → Option DV
  | .tmp n => some (Opd.ev t (.t n))
  | .cell n k isAgg => match Opd.ev t (.t n) with
    | .ptr b o => match loadD h b o k with
      | some cs => partD cs 0 k isAgg
      | none => none
    | _ => none
def resultsD (t : Fr) (h : DHeap) : List DRes → Option (List DV)
  | [] => some []
  | r :: rs => match resD t h r, resultsD t h rs with
    | some v, some vs => some (v :: vs)
    | _, _ => none
def retD (t : Fr) (h : DHeap) (rs : List DRes) : Option DV :=
  match resultsD t h rs with
  | some [v] => some v
  | some vs => some (.tuple vs)
  | none => none
def frameD : Nat → List DV → Fr → Fr
  | _, [], t => t
  | i, v :: vs, t => frameD (i + 1) vs (Tr.set t i (some v))

def callD (P : DProg) (fuel : Nat) : Nat → Caller
  | 0 => fun _ _ _ => none
  | n + 1 => fun f args h =>
    match P.spec f with
    | some s => s args h
    | none =>
      match P.funcs f with
      | some fn => match codeD P (callD P fuel n) fuel fn.body (frameD 0 args .nil) h with
        | some (.exit _, _, _) => none
        | some (_, t, h') => match retD t h' fn.results with
          | some v => some (v, h')
          | none => none
        | none => none
      | none => none
end Go.Dx
