/- What it is for an own text to stand for a function of the program. -/
import Derived.Test.YtfdplefijefeiaaGreatDoorZ12
import Derived.Test.YtfdplefijefeiaaGreatDoorProg
import Derived.KernelRfl
namespace Go.Proofs.YtfdplefijefeiaaGreatDoor
open Go.Dx
noncomputable def drw : Func → Array Oper → Option (List (DOper × SK)) := fun fn ops => drawC Tryz.prog fn.ntmps ops
def Fok (f : Nat) (d : DFunc) : Prop := ∃ fn, Tryz.prog.funcs[f]? = some fn ∧ funcN Tryz.prog drw fn = some d
def mkTr (l : List (Nat × DFunc)) : Tr DFunc := l.foldl (fun t p => t.set p.1 (some p.2)) .nil
end Go.Proofs.YtfdplefijefeiaaGreatDoor
