/- HouseNames: called without an argument, it answers true: the document's first examples are as it says, and the numbers are the document's. No condition but the row's own list of library tables. -/
import Derived.Test.YtfdplefijefeiaaGreatDoorCards
import Derived.Test.YtfdplefijefeiaaGreatDoorTie
import Derived.Test.YtfdplefijefeiaaGreatDoorR1
import Derived.Test.YtfdplefijefeiaaGreatDoorHc
import Derived.ProofKit
import Derived.OpenShut
import Derived.Deep.DeepHandedRow
import Derived.Lib.LaidTab
import Derived.Lay
namespace Go.Proofs.YtfdplefijefeiaaGreatDoor
open Go.ChangeShapes Go.WideShapes Go.ChangeAt Go.RowKit Go.Dx

theorem own : ownKnob Tryz.prog.godebug = none := by kernel_rfl

/-- what is known of memory when a call begins -/
def env0 : Env := fun g => if g < 19 then some ⟨g, 0, 0, 0⟩ else none
theorem glob0 : Glob Tryz.prog env0 := fun g hg => by
  have h : Tryz.prog.globals.size = 19 := by kernel_rfl
  exact ⟨0, 0, by unfold env0; rw [if_pos (by omega)]⟩
theorem size_of_shaped {W : World} (hS : W.ShapedOpen Tryz.prog) : 19 ≤ W.heap.size := by
  have h : ((((begin Tryz.prog (fun _ _ => 0) default).world.heap[18]?).bind Obj.row?).isSome) = true := by kernel_rfl
  obtain ⟨⟨z, t⟩, hz⟩ := Option.isSome_iff_exists.1 h
  obtain ⟨cs, hc, _⟩ := hS.1 18 z t (of_decide_eq_true (by kernel_rfl)) hz
  have := (Array.getElem?_eq_some_iff.1 hc).1
  omega
theorem get0 {m : Int} {b : Nat} {o : DObj} (h : (h0 m).get b = some o) : b = 12 ∧ o = .cells [.int .i64 m] true 0 := by
  have h' : (Tr.set .nil 12 (some (DObj.cells [.int .i64 m] true 0))).get b = some o := h
  rw [Tr.get_set] at h'
  by_cases hb : b = 12
  · rw [if_pos hb] at h'
    cases h'
    exact ⟨hb, rfl⟩
  · rw [if_neg hb] at h'
    cases h'
theorem rep0 {W : World} {m : Int} (hs : 19 ≤ W.heap.size) (hm : W.cell? ⟨12, 0, none⟩ = some (.int .i64 m)) : Rep env0 (h0 m) W where
  obj := fun b o hb => by
    obtain ⟨rfl, rfl⟩ := get0 hb
    refine ⟨⟨12, 0, 0, 0⟩, rfl, [.int .i64 m], rfl, fun j v hj => ?_, (fun h => by cases h), rfl, fun h => by cases h⟩
    cases j with
    | zero =>
      simp only [List.getElem?_cons_zero, Option.some.injEq] at hj
      subst hj
      exact hm
    | succ j => simp at hj
  inj := fun b b' o o' x x' h1 h2 _ _ _ => by rw [(get0 h1).1, (get0 h2).1]
  lt := fun b x hb => by
    unfold env0 at hb
    split at hb
    · cases hb; show b < _; omega
    · cases hb
  new := fun b hb => by
    have hb' : 19 ≤ b := hb
    unfold env0
    rw [if_neg (by omega)]
theorem run_walk (f : Nat) (fn : Func) (hf : Tryz.prog.funcs[f]? = some fn) (hb : fn.body.isSome = true) (hn : (fn.name != "runtime.NumGoroutine") = true) (hrun : ∀ m, (callD DP 5000 60 f [] (h0 m)).map (·.1) = some (.bool true)) (W : World) (hS : W.ShapedOpen Tryz.prog) :
    Calls Tryz.prog f #[] W fun e W' => e = .returned (.bool true) ∧ Below W.heap.size W W' := by
  obtain ⟨m, hm⟩ := Tryz.laysM185.s1_3 W hS
  have hm : W.cell? ⟨12, 0, none⟩ = some (.int .i64 m) := hm
  have hr := hrun m
  obtain ⟨⟨v, h'⟩, hc, hv⟩ := Option.map_eq_some_iff.1 hr
  have hv : v = .bool true := hv
  subst hv
  have r := rep0 (size_of_shaped hS) hm
  have hen : (callFunc f #[]).run Tryz.prog W = .ok (.enter f #[]) W := by
    obtain ⟨b, hb⟩ := Option.isSome_iff_exists.1 hb
    simp [callFunc, hf, hb, show fn.name ≠ "runtime.NumGoroutine" by simpa using hn]
  rcases call_sound pok 5000 60 env0 (h0 m) W f [] (.bool true) h' #[] hc glob0 r rfl with ⟨f', args', h3, h4⟩ | ⟨rv, e', w', h3, _⟩
  · rw [hen] at h3
    cases h3
    refine h4.mono fun en w' ⟨e', rv, he, st, hval⟩ => ?_
    subst he
    simp only [val, Option.some.injEq] at hval
    subst hval
    refine ⟨rfl, st.os, st.tape, st.output, st.size, fun B hB => st.block B hB ?_⟩
    rintro ⟨b, o, x, h1, h2, _⟩
    rw [(get0 h1).2] at h2
    cases h2
  · rw [hen] at h3
    cases h3
end Go.Proofs.YtfdplefijefeiaaGreatDoor
namespace Go.Proofs.YtfdplefijefeiaaGreatDoor.house
open Go.ChangeShapes Go.WideShapes Go.ChangeAt Go.RowKit

/-- the list of the row -/
def laidRow : List (String × DataW Unit) := Rows.houseNamesRow.laid
theorem laid_plain (W : World) : laidMetH Tryz.prog laidRow W = laidMet Tryz.prog laidRow W := MakeChecks.laidMetH_plain _ _ _ (by kernel_rfl)
/-- a world for a witness: the listed variables hold what they are listed with -/
noncomputable def laidWorld (os : Os) : World := World.laidAll Tryz.prog os laidRow
theorem laid_met (os : Os) (args : Array Value) : laidMet Tryz.prog laidRow ((laidWorld os).forCall (fun _ _ => 0) { blocks := #[], args := args }).memory :=
  laidMet_laidAll args (by kernel_rfl) (by kernel_rfl)

theorem walk (W : World) (hS : W.ShapedOpen Tryz.prog) : Calls Tryz.prog 3 #[] W fun e W' => e = .returned (.bool true) ∧ Below W.heap.size W W' :=
  run_walk 3 _ Tryz.func3 (by kernel_rfl) (by kernel_rfl) run3 W hS

theorem contract (H : Type) (enc : TypeId × Value → H) (W : World) (args : Array Value) (ds gs : List (DataW H)) (before : List MemPlace)
    (hW : DataW.Whole enc Tryz.prog Tryz.f3.params.toList Rows.houseNamesSpec.vars false W args.toList ds gs before) (hS : W.ShapedOpen Tryz.prog) :
    Calls Tryz.prog 3 args W fun e W' => ∃ v, e = .returned v ∧ Rows.houseNamesSpec.post enc Tryz.prog Tryz.f3 false true false false W args v W' := by
  have hW' := hW
  obtain ⟨p, q, hA0, hV, rfl, hfz, hnd⟩ := hW
  have hA : DataW.TrodAll enc Tryz.prog W 0 (fun _ => true) true Tryz.f3.params.toList args.toList ds p := hA0
  rw [Tryz.params3] at hA
  obtain ⟨hargs, rfl, rfl⟩ := trodAll_nil hA
  obtain rfl : args = #[] := by cases args; simp_all
  obtain ⟨rfl, rfl⟩ := trodVars_none hV
  refine (walk W hS).mono fun e W' ⟨he, hb⟩ => ?_
  subst he
  exact ⟨_, rfl, _, _, _, [], [], [], hW', trodAll_mk1 (shut_bool Tryz.underlying4 _), trodAll_mk0, rfl, hb.frame _, fun h => by cases h⟩

theorem reads (os : Os) {H : Type} (enc : TypeId × Value → H) : ∃ places, DataW.whole enc Tryz.prog ((laidWorld os).forCall (fun _ _ => 0) ⟨#[], #[], []⟩).memory Tryz.f3.params.toList Rows.houseNamesSpec.vars false (#[] : Array Value).toList 8 = some ([], [], places) :=
  ⟨[], by kernel_rfl⟩

set_option maxRecDepth 100000 in
theorem lifted (os : Os) (started : os.Started) (H : Type) (enc : TypeId × Value → H) (F : Stop.Interp) :
    ReturnsInHanded {} Tryz.checked os 3 .any ((OpenSpec.ofChange Rows.houseNamesSpec).preRow enc Tryz.prog Tryz.f3 Rows.houseNamesRow.domain false Rows.houseNamesRow.laid) (((OpenSpec.ofChange Rows.houseNamesSpec).at F).post enc Tryz.prog Tryz.f3 false true false false) := by
  obtain ⟨places, hx⟩ := reads os enc
  refine returnsInHanded_of_row (C := Tryz.checked) (s := OpenSpec.ofChange Rows.houseNamesSpec) own started (by kernel_rfl) Tryz.func3
    (witness_row_at (enc := enc) (C := Tryz.checked) false (laidWorld os) #[] (World.laidAll_os _ _ _) (by kernel_rfl) (by kernel_rfl) (by kernel_rfl)
      (OpenSpec.preRow_of_cond 8 hx (by kernel_rfl) (fun k hk => by cases hk) (by kernel_rfl) (by show laidMetH Tryz.prog laidRow _; rw [laid_plain]; exact laid_met os #[]))) ?_
  intro W base args ds gs before hval hW _ _ _ hL hS _
  exact contract H enc W args ds gs before hW hS

theorem said : Rows.HouseNamesSaid :=
  OpenClaim.holds_of_cond 3 Tryz.f3 rfl rfl rfl rfl rfl rfl rfl ⟨rfl, rfl, rfl, rfl, rfl⟩ rfl rfl rfl rfl rfl (by kernel_rfl) Tryz.func3 closed
    (of_decide_eq_true (by kernel_rfl)) (by unfold Func.isWrapper; first | (rw [if_pos (by decide +kernel)]; kernel_rfl) | (rw [if_neg (by decide +kernel)]; exact ⟨rfl, rfl⟩))
    (fun os started H enc _ F => by rw [OpenClaim.pre_eq_preRow]; exact lifted os started H enc F)

theorem plain (f : FuncId) (fn : Func) (hf : Tryz.pinned.checked.prog.funcNamed "stint/stintlaw18.HouseNames" = some f) (hfn : Tryz.pinned.checked.prog.funcs[f]? = some fn) :
    true = Tryz.pinned.checked.prog.looks [] ∧ ∀ (j : Nat) t, fn.params[j]? = some t → Tryz.pinned.checked.prog.wantsStandIn t = false := by
  obtain rfl : f = 3 := Option.some.inj ((show Tryz.prog.funcNamed "stint/stintlaw18.HouseNames" = some 3 by kernel_rfl).symm.trans hf) |>.symm
  obtain rfl : fn = Tryz.f3 := (Option.some.inj (Tryz.func3.symm.trans hfn)).symm
  refine ⟨by kernel_rfl, fun j t ht => ?_⟩
  rw [Tryz.params3] at ht
  simp at ht

/-- THE CARD -/
theorem card : Rows.HouseNamesCardSaid :=
  Claim7.holds_tied_plain_at .later [] _ _ _ _ said (fun _ h => by cases h) (by kernel_rfl) (fun _ h => by cases h) houseNames_row_tie rfl ⟨rfl, rfl⟩ (by kernel_rfl) rfl plain (by kernel_rfl)
#print axioms card
end Go.Proofs.YtfdplefijefeiaaGreatDoor.house
