/- The own program stands for the given one; a run of it. -/
import Derived.Test.YtfdplefijefeiaaGreatDoorS1
import Derived.Test.YtfdplefijefeiaaGreatDoorKat
namespace Go.Proofs.YtfdplefijefeiaaGreatDoor
open Go.Dx Go.Proofs Go.RowKit

theorem mkTr_get : ∀ (l : List (Nat × DFunc)) (t : Tr DFunc) (f : Nat) (d : DFunc), (l.foldl (fun t p => t.set p.1 (some p.2)) t).get f = some d → (f, d) ∈ l ∨ t.get f = some d
  | [], t, f, d, h => .inr h
  | p :: l, t, f, d, h => by
    rcases mkTr_get l _ f d h with h1 | h1
    · exact .inl (List.mem_cons_of_mem _ h1)
    · rw [Tr.get_set] at h1
      by_cases hf : f = p.1
      · rw [if_pos hf] at h1
        cases h1
        subst hf
        exact .inl (List.mem_cons_self ..)
      · rw [if_neg hf] at h1
        exact .inr h1
theorem tree_ok (f : Nat) (d : DFunc) (h : tree.get f = some d) : Fok f d := by
  rw [tree_eq] at h
  rcases mkTr_get tab .nil f d h with h1 | h1
  · exact tab_ok (f, d) h1
  · cases h1

def specT (f : Nat) : Option (List DV → DHeap → Option (DV × DHeap)) :=
  match f with
  | 133 => some sFirst
  | 211 => some sIdxByte
  | 255 => some sCount
  | 152 => some sIndex
  | _ => none
def methT (t : TypeId) (n : String) : Option (Nat × Recv) := (meth.find? fun p => p.1 == t && p.2.1 == n).map fun p => (p.2.2, .same)
def DP : DProg := { funcs := fun f => tree.get f, etys := fun _ => none, methods := methT, impl := fun _ _ => none, spec := specT }

theorem mixed : Tryz.prog.follows .mixedOrders = true := by kernel_rfl
theorem meth_ok : ∀ p ∈ meth, methodD Tryz.prog p.1 p.2.1 = some (p.2.2, .same) := List.forall_mem_cons.2 ⟨by kernel_rfl, fun _ h => by cases h⟩
theorem dok : DOk Tryz.prog DP where
  etys := fun T x h => by cases h
  impl := fun T U b h => by cases h
  methods := fun T name q h => by
    have h : methT T name = some q := h
    unfold methT at h
    obtain ⟨p, hp, rfl⟩ := Option.map_eq_some_iff.1 h
    have h1 := List.find?_some hp
    simp only [Bool.and_eq_true, beq_iff_eq] at h1
    obtain ⟨rfl, rfl⟩ := h1
    exact ⟨rfl, meth_ok p (List.mem_of_find?_eq_some hp)⟩
theorem pok : ProgOk Tryz.prog DP drw where
  ops := dok
  funcs := tree_ok
  spec := fun f s hs => by
    have hs : specT f = some s := hs
    unfold specT at hs
    split at hs
    · cases hs; exact sFirst_ok
    · cases hs; exact sIdxByte_ok
    · cases hs; exact sCount_ok
    · cases hs; exact sIndex_ok
    · cases hs
  draws := fun call hcall fn ops dl hdl => draw_ok mixed dok hcall hdl
end Go.Proofs.YtfdplefijefeiaaGreatDoor
