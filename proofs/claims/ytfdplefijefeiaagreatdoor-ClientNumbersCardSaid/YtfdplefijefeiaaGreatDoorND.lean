/- What stands for functions that are not run, and the own program: definitions alone. -/
import Derived.Test.YtfdplefijefeiaaGreatDoorNKdt
import Derived.Test.YtfdplefijefeiaaGreatDoorZ2
import Derived.Lib.Bytealg
import Derived.Lib.Join
namespace Go.Proofs.YtfdplefijefeiaaGreatDoor
open Go.Dx

/-- (*seats.Seats).First where nobody waits -/
def sFirst : List DV → DHeap → Option (DV × DHeap)
  | [.ptr b o, .str _], h => match loadD h b (o + 1) 1 with
    | some [.ptr b2 o2] => match loadD h b2 o2 1 with
      | some [.nilPtr] => some (.int .i64 (-1), h)
      | _ => none
    | _ => none
  | _, _ => none
/-- internal/bytealg.IndexByteString -/
def sIdxByte : List DV → DHeap → Option (DV × DHeap)
  | [.str s, .int .u8 c], h => some (.int .i64 (Lib.indexByte s c.toNat.toUInt8), h)
  | _, _ => none
/-- internal/bytealg.CountString -/
def sCount : List DV → DHeap → Option (DV × DHeap)
  | [.str s, .int .u8 c], h => some (.int .i64 (Lib.countByte s c.toNat.toUInt8), h)
  | _, _ => none
/-- bytes.Index -/
def idxD (sub : List UInt8) : List UInt8 → Int
  | [] => if sub.isEmpty then 0 else -1
  | b :: l => if sub.isPrefixOf (b :: l) then 0 else match idxD sub l with
    | .negSucc _ => -1
    | .ofNat n => .ofNat (n + 1)
def sIndex : List DV → DHeap → Option (DV × DHeap)
  | [.nilSlice, .slice b2 _ _ k _ _], h => if 2 ≤ k ∧ k ≤ 9223372036854775807 then some (.int .i64 (-1), h) else none
  | [.slice b o _ n c _, .slice b2 o2 _ k c2 _], h =>
    if 2 ≤ k ∧ n < k ∧ k ≤ 9223372036854775807 then some (.int .i64 (-1), h) else
    if 1 ≤ n ∧ n ≤ c ∧ 1 ≤ k ∧ k ≤ c2 ∧ n < 4294967281 ∧ k ≤ 9223372036854775807 then
      match loadD h b o n, loadD h b2 o2 k, loadD h 12 0 1 with
      | some xs, some ys, some [.int .i64 _] => match bytesOfD xs, bytesOfD ys with
        | some a, some s => some (.int .i64 (idxD s a), h)
        | _, _ => none
      | _, _, _ => none
    else none
  | _, _ => none
def strsOfD : List DV → Option (List (List UInt8))
  | [] => some []
  | .str s :: r => match strsOfD r with
    | some l => some (s :: l)
    | none => none
  | _ => none
def sJoin : List DV → DHeap → Option (DV × DHeap)
  | [.slice b o _ n c _, .str sep], h => if 1 ≤ n ∧ n ≤ c ∧ n ≤ 1073741824 then
      match loadD h b o n with
      | some cs => match strsOfD cs with
        | some l => if (Lib.join l sep).length ≤ 1073741824 then some (.str (Lib.join l sep), h) else none
        | none => none
      | none => none
    else none
  | _, _ => none
/-- the types of the errors that occur: *client.Refusal, *errors.errorString -/
def sTypeOf : List DV → DHeap → Option (DV × DHeap)
  | [.iface 39 _], h => some (.iface 146 (.agg [.ptr 19 39]), h)
  | [.iface 419 _], h => some (.iface 146 (.agg [.ptr 19 419]), h)
  | _, _ => none
def sComparable : List DV → DHeap → Option (DV × DHeap)
  | [.agg [.ptr 19 39]], h => some (.bool true, h)
  | [.agg [.ptr 19 419]], h => some (.bool true, h)
  | _, _ => none
def specT (f : Nat) : Option (List DV → DHeap → Option (DV × DHeap)) :=
  match f with
  | 133 => some sFirst
  | 211 => some sIdxByte
  | 255 => some sCount
  | 152 => some sIndex
  | 83 => some sJoin
  | 40 => some sTypeOf
  | 291 => some sComparable
  | _ => none
def methA : List (Nat × String × Nat) := (146, "Comparable", 291) :: meth
def methT (t : TypeId) (n : String) : Option (Nat × Recv) := (methA.find? fun p => p.1 == t && p.2.1 == n).map fun p => (p.2.2, .same)
def etyL (t : TypeId) : Option ETy := match t with | 39 => some .ptr | 419 => some .ptr | _ => none
def implL (t u : TypeId) : Option Bool :=
  match t with
  | 39 => match u with | 148 => some false | 151 => some true | 152 => some false | _ => none
  | 419 => match u with | 148 => some false | 151 => some false | 152 => some false | _ => none
  | _ => none
def DP : DProg := { funcs := fun f => tree.get f, etys := etyL, methods := methT, impl := implL, spec := specT }

/-- an error of errors.New's make: the variable, the object -/
def errH (h : DHeap) (g b : Nat) (text : List UInt8) : DHeap := (h.put g (.cells [.iface 419 (.ptr b 0)] true 0)).put b (.cells [.str text] true 0)
/-- what is known of memory when the call begins -/
def h0 (m : Int) : DHeap :=
  errH (errH (errH (errH (DHeap.put ⟨.nil, 24⟩ 12 (.cells [.int .i64 m] true 0)) 0 20 [99, 108, 111, 115, 101, 100]) 1 21 [110, 111, 116, 32, 102, 111, 117, 110, 100])
    2 22 [110, 111, 116, 32, 116, 104, 101, 32, 112, 114, 111, 116, 111, 99, 111, 108]) 3 23 [110, 111, 32, 97, 110, 115, 119, 101, 114, 32, 121, 101, 116]
end Go.Proofs.YtfdplefijefeiaaGreatDoor
