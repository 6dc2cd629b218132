/- The own program stands for the given one: what ClientNumbers comes to. -/
import Derived.Test.YtfdplefijefeiaaGreatDoorNS
import Derived.Test.YtfdplefijefeiaaGreatDoorNKat
import Derived.Stop.Asserts
namespace Go.Proofs.YtfdplefijefeiaaGreatDoor
open Go.Dx Go.Proofs Go.RowKit

theorem mkTr_get : ∀ (l : List (Nat × DFunc)) (t : Tr DFunc) (f : Nat) (d : DFunc), (l.foldl (fun t p => t.set p.1 (some p.2)) t).get f = some d → (f, d) ∈ l ∨ t.get f = some d
  | [], t, f, d, h => .inr h
  | p :: l, t, f, d, h => by
    rcases mkTr_get l _ f d h with h1 | h1
    · exact .inl (List.mem_cons_of_mem _ h1)
    · rw [Tr.get_set] at h1
      by_cases hf : f = p.1
      · rw [if_pos hf] at h1
        cases h1
        subst hf
        exact .inl (List.mem_cons_self ..)
      · rw [if_neg hf] at h1
        exact .inr h1
theorem tree_ok (f : Nat) (d : DFunc) (h : tree.get f = some d) : Fok f d := by
  rw [tree_eq] at h
  rcases mkTr_get tab .nil f d h with h1 | h1
  · exact tab_ok (f, d) h1
  · cases h1

theorem mixed : Tryz.prog.follows .mixedOrders = true := by kernel_rfl
def MethOk (p : Nat × String × Nat) : Prop := methodD Tryz.prog p.1 p.2.1 = some (p.2.2, .same)
theorem meth_ok : ∀ p ∈ methA, MethOk p :=
  List.forall_mem_cons.2 ⟨by show methodD _ _ _ = _; kernel_rfl, List.forall_mem_cons.2 ⟨by show methodD _ _ _ = _; kernel_rfl, List.forall_mem_cons.2 ⟨by show methodD _ _ _ = _; kernel_rfl, List.forall_mem_cons.2 ⟨by show methodD _ _ _ = _; kernel_rfl, List.forall_mem_cons.2 ⟨by show methodD _ _ _ = _; kernel_rfl, List.forall_mem_cons.2 ⟨by show methodD _ _ _ = _; kernel_rfl, fun _ h => by cases h⟩⟩⟩⟩⟩⟩
theorem ety39 : etyD Tryz.prog 8 39 = some .ptr := by kernel_rfl
theorem ety419 : etyD Tryz.prog 8 419 = some .ptr := by kernel_rfl
theorem cmp39 : (Tryz.prog.info? 39).map (·.comparable) = some true := by kernel_rfl
theorem cmp419 : (Tryz.prog.info? 419).map (·.comparable) = some true := by kernel_rfl
open Go.Stop in
theorem implF {T U : TypeId} {want : Array (String × TypeId)} (hu : Tryz.prog.underlying U = some (.interface want)) (h : (Tryz.prog.info? T).map (fun i => (lacking want i.methods).isEmpty) = some false) : implD Tryz.prog T U = some false := by
  obtain ⟨i, hi, hl⟩ := Option.map_eq_some_iff.1 h
  obtain ⟨m, hm⟩ := missingMethod_some (want := want) (got := i.methods) (fun e => by rw [e] at hl; cases hl)
  unfold implD
  simp [hi, hu, hm]
open Go.Stop in
theorem implT {T U : TypeId} {want : Array (String × TypeId)} (hu : Tryz.prog.underlying U = some (.interface want)) (h : (Tryz.prog.info? T).map (fun i => (lacking want i.methods).isEmpty) = some true) : implD Tryz.prog T U = some true := by
  obtain ⟨i, hi, hl⟩ := Option.map_eq_some_iff.1 h
  have hm := missingMethod_none (want := want) (got := i.methods) (List.isEmpty_iff.1 hl)
  unfold implD
  simp [hi, hu, hm]
theorem impl39a : implD Tryz.prog 39 148 = some false := implF Tryz.underlying148 (by kernel_rfl)
theorem impl39b : implD Tryz.prog 39 151 = some true := implT Tryz.underlying151 (by kernel_rfl)
theorem impl39c : implD Tryz.prog 39 152 = some false := implF Tryz.underlying152 (by kernel_rfl)
theorem impl419a : implD Tryz.prog 419 148 = some false := implF Tryz.underlying148 (by kernel_rfl)
theorem impl419b : implD Tryz.prog 419 151 = some false := implF Tryz.underlying151 (by kernel_rfl)
theorem impl419c : implD Tryz.prog 419 152 = some false := implF Tryz.underlying152 (by kernel_rfl)
theorem dok : DOk Tryz.prog DP where
  etys := fun T x h => by
    have h : etyL T = some x := h
    unfold etyL at h
    split at h
    · cases h; exact ⟨ety39, Option.map_eq_some_iff.1 cmp39⟩
    · cases h; exact ⟨ety419, Option.map_eq_some_iff.1 cmp419⟩
    · cases h
  impl := fun T U b h => by
    have h : implL T U = some b := h
    unfold implL at h
    split at h
    · split at h
      · cases h; exact impl39a
      · cases h; exact impl39b
      · cases h; exact impl39c
      · cases h
    · split at h
      · cases h; exact impl419a
      · cases h; exact impl419b
      · cases h; exact impl419c
      · cases h
    · cases h
  methods := fun T name q h => by
    have h : methT T name = some q := h
    unfold methT at h
    obtain ⟨p, hp, rfl⟩ := Option.map_eq_some_iff.1 h
    have h1 := List.find?_some hp
    simp only [Bool.and_eq_true, beq_iff_eq] at h1
    obtain ⟨rfl, rfl⟩ := h1
    exact ⟨rfl, meth_ok p (List.mem_of_find?_eq_some hp)⟩
theorem pok : ProgOk Tryz.prog DP drw where
  ops := dok
  funcs := tree_ok
  spec := fun f s hs => by
    have hs : specT f = some s := hs
    unfold specT at hs
    split at hs
    · cases hs; exact sFirst_ok
    · cases hs; exact sIdxByte_ok
    · cases hs; exact sCount_ok
    · cases hs; exact sIndex_ok
    · cases hs; exact sJoin_ok
    · cases hs; exact sTypeOf_ok
    · cases hs; exact sComparable_ok
    · cases hs
  draws := fun call hcall fn ops dl hdl => draw_ok mixed dok hcall hdl
end Go.Proofs.YtfdplefijefeiaaGreatDoor
