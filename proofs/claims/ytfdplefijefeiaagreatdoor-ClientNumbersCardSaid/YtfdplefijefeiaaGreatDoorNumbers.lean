/- ClientNumbers: called without an argument, it answers true: the document's first example is as it says, and the numbers are the document's. No condition but the row's own list of package-level variables. -/
import Derived.Test.YtfdplefijefeiaaGreatDoorCards
import Derived.Test.YtfdplefijefeiaaGreatDoorTie
import Derived.Test.YtfdplefijefeiaaGreatDoorNR0
import Derived.Test.YtfdplefijefeiaaGreatDoorNR1
import Derived.Test.YtfdplefijefeiaaGreatDoorNHc
import Derived.ProofKit
import Derived.OpenShut
import Derived.Deep.DeepHandedRow
import Derived.Lib.LaidTab
import Derived.Lay
import Derived.Stop.LaidErr
namespace Go.Proofs.YtfdplefijefeiaaGreatDoor
open Go.ChangeShapes Go.WideShapes Go.ChangeAt Go.RowKit Go.Dx

theorem own : ownKnob Tryz.prog.godebug = none := by kernel_rfl
theorem star : "*" ++ "errors.errorString" = "*errors.errorString" := by decide
theorem row419 (u : TypeId) (h : Tryz.prog.typeName? 3 u = some "*errors.errorString") : u = 419 :=
  typeName_ptr_named (nm := "errors.errorString") (by rw [star]; kernel_rfl) (by kernel_rfl) (by decide) u (by rw [star]; exact h)
theorem cells511 : Tryz.prog.cellsOf 511 = 1 := by kernel_rfl
theorem cells9 : Tryz.prog.cellsOf 9 = 1 := by kernel_rfl
/-- an error of errors.New's make lies in memory -/
def Sent (W : World) (g : Nat) (b o : Nat) (text : List UInt8) : Prop := W.cell? ⟨g, 0, none⟩ = some (.iface 419 (.pointer (some ⟨b, o, none⟩))) ∧ W.cell? ⟨b, o, none⟩ = some (.string ⟨text.toArray⟩)
theorem sent_of {n : String} {g : Nat} {text : List UInt8} {r : List (String × DataW Unit)} {W : World} (h : laidMet Tryz.prog ((n, .iface "*errors.errorString" (.ptr (.agg [.lit (.string text)]))) :: r) W)
    (hg : Tryz.prog.globalNamed n = some g) (ht : (Tryz.prog.globals[g]?).map (·.type) = some 27) : ∃ b o, Sent W g b o text := by
  obtain ⟨a, s, hv, hc, hs, _⟩ := laid_sentinel h hg ht Tryz.underlying27 row419 Tryz.underlying419 Tryz.underlying511 rfl rfl Tryz.underlying9 cells511 cells9
  have hcell := World.var?_cell hg hv 0
  have hp : a = ⟨a.block, a.off, none⟩ := Lib.plain_of_cell hc
  obtain ⟨b, o, sp⟩ := a
  simp only [Addr.mk.injEq, true_and] at hp
  subst hp
  refine ⟨b, o, by simpa using hcell, ?_⟩
  rw [hc]
  congr 2
  obtain ⟨d⟩ := s
  simp only at hs
  rw [← hs]
theorem laid_tail {P : Program} {x : String × DataW Unit} {l : List (String × DataW Unit)} {W : World} (h : laidMet P (x :: l) W) : laidMet P l W := laidMet.tail h

/-- what is known of memory when a call begins -/
def env0 (p : Nat → Nat × Nat) : Env := fun g => if g ≤ 19 then some ⟨g, 0, 0, 0⟩ else if g ≤ 23 then some ⟨(p g).1, (p g).2, 0, 0⟩ else none
theorem glob0 (p : Nat → Nat × Nat) : Glob Tryz.prog (env0 p) := fun g hg => by
  have h : Tryz.prog.globals.size = 19 := by kernel_rfl
  exact ⟨0, 0, by unfold env0; rw [if_pos (by omega)]⟩
theorem size_of_shaped {W : World} (hS : W.ShapedOpen Tryz.prog) : 20 ≤ W.heap.size := by
  obtain ⟨o, _, ho, _⟩ := hS.2 19 (of_decide_eq_true (by kernel_rfl)) (of_decide_eq_true (by kernel_rfl))
  have := (Array.getElem?_eq_some_iff.1 ho).1
  omega
theorem one_obj {e : Env} {W : World} {x : Ent} {d : DV} {v : Value} (hv : val e d = some v) (hc : W.cell? ⟨x.blk, x.base, none⟩ = some v) (hz : x.sz = 0) : objAt e W x (.cells [d] true 0) :=
  ⟨[v], vals_cons_of hv rfl, fun j u hj => by
    cases j with
    | zero => simp only [List.getElem?_cons_zero, Option.some.injEq] at hj; subst hj; exact hc
    | succ j => simp at hj, (fun h => by cases h), hz, fun h => by cases h⟩
theorem get0 {m : Int} {b : Nat} {o : DObj} (h : (h0 m).get b = some o) :
    (b = 23 ∧ o = .cells [.str [110, 111, 32, 97, 110, 115, 119, 101, 114, 32, 121, 101, 116]] true 0) ∨ (b = 3 ∧ o = .cells [.iface 419 (.ptr 23 0)] true 0) ∨
    (b = 22 ∧ o = .cells [.str [110, 111, 116, 32, 116, 104, 101, 32, 112, 114, 111, 116, 111, 99, 111, 108]] true 0) ∨ (b = 2 ∧ o = .cells [.iface 419 (.ptr 22 0)] true 0) ∨
    (b = 21 ∧ o = .cells [.str [110, 111, 116, 32, 102, 111, 117, 110, 100]] true 0) ∨ (b = 1 ∧ o = .cells [.iface 419 (.ptr 21 0)] true 0) ∨
    (b = 20 ∧ o = .cells [.str [99, 108, 111, 115, 101, 100]] true 0) ∨ (b = 0 ∧ o = .cells [.iface 419 (.ptr 20 0)] true 0) ∨ (b = 12 ∧ o = .cells [.int .i64 m] true 0) := by
  unfold h0 errH at h
  simp only [DHeap.get_put] at h
  have key : ∀ {p : Prop} [Decidable p] {x y : Option DObj}, (if p then x else y) = some o → (p ∧ x = some o) ∨ (¬ p ∧ y = some o) := fun {p} _ {x y} hh => by
    by_cases hp : p
    · rw [if_pos hp] at hh; exact .inl ⟨hp, hh⟩
    · rw [if_neg hp] at hh; exact .inr ⟨hp, hh⟩
  rcases key h with ⟨hb, ho⟩ | ⟨_, h⟩
  · cases ho; exact .inl ⟨hb, rfl⟩
  rcases key h with ⟨hb, ho⟩ | ⟨_, h⟩
  · cases ho; exact .inr (.inl ⟨hb, rfl⟩)
  rcases key h with ⟨hb, ho⟩ | ⟨_, h⟩
  · cases ho; exact .inr (.inr (.inl ⟨hb, rfl⟩))
  rcases key h with ⟨hb, ho⟩ | ⟨_, h⟩
  · cases ho; exact .inr (.inr (.inr (.inl ⟨hb, rfl⟩)))
  rcases key h with ⟨hb, ho⟩ | ⟨_, h⟩
  · cases ho; exact .inr (.inr (.inr (.inr (.inl ⟨hb, rfl⟩))))
  rcases key h with ⟨hb, ho⟩ | ⟨_, h⟩
  · cases ho; exact .inr (.inr (.inr (.inr (.inr (.inl ⟨hb, rfl⟩)))))
  rcases key h with ⟨hb, ho⟩ | ⟨_, h⟩
  · cases ho; exact .inr (.inr (.inr (.inr (.inr (.inr (.inl ⟨hb, rfl⟩))))))
  rcases key h with ⟨hb, ho⟩ | ⟨_, h⟩
  · cases ho; exact .inr (.inr (.inr (.inr (.inr (.inr (.inr (.inl ⟨hb, rfl⟩)))))))
  rcases key h with ⟨hb, ho⟩ | ⟨_, h⟩
  · cases ho; exact .inr (.inr (.inr (.inr (.inr (.inr (.inr (.inr ⟨hb, rfl⟩)))))))
  · cases h
theorem get0_ro {m : Int} {b : Nat} {o : DObj} (h : (h0 m).get b = some o) : o.ro = true := by
  rcases get0 h with ⟨_, rfl⟩ | ⟨_, rfl⟩ | ⟨_, rfl⟩ | ⟨_, rfl⟩ | ⟨_, rfl⟩ | ⟨_, rfl⟩ | ⟨_, rfl⟩ | ⟨_, rfl⟩ | ⟨_, rfl⟩ <;> rfl
theorem rep0 {W : World} {m : Int} (p : Nat → Nat × Nat) (hs : 20 ≤ W.heap.size) (hm : W.cell? ⟨12, 0, none⟩ = some (.int .i64 m))
    (s0 : Sent W 0 (p 20).1 (p 20).2 [99, 108, 111, 115, 101, 100]) (s1 : Sent W 1 (p 21).1 (p 21).2 [110, 111, 116, 32, 102, 111, 117, 110, 100])
    (s2 : Sent W 2 (p 22).1 (p 22).2 [110, 111, 116, 32, 116, 104, 101, 32, 112, 114, 111, 116, 111, 99, 111, 108]) (s3 : Sent W 3 (p 23).1 (p 23).2 [110, 111, 32, 97, 110, 115, 119, 101, 114, 32, 121, 101, 116]) : Rep (env0 p) (h0 m) W where
  obj := fun b o hb => by
    rcases get0 hb with ⟨rfl, rfl⟩ | ⟨rfl, rfl⟩ | ⟨rfl, rfl⟩ | ⟨rfl, rfl⟩ | ⟨rfl, rfl⟩ | ⟨rfl, rfl⟩ | ⟨rfl, rfl⟩ | ⟨rfl, rfl⟩ | ⟨rfl, rfl⟩
    · exact ⟨⟨(p 23).1, (p 23).2, 0, 0⟩, rfl, one_obj rfl s3.2 rfl⟩
    · exact ⟨⟨3, 0, 0, 0⟩, rfl, one_obj rfl s3.1 rfl⟩
    · exact ⟨⟨(p 22).1, (p 22).2, 0, 0⟩, rfl, one_obj rfl s2.2 rfl⟩
    · exact ⟨⟨2, 0, 0, 0⟩, rfl, one_obj rfl s2.1 rfl⟩
    · exact ⟨⟨(p 21).1, (p 21).2, 0, 0⟩, rfl, one_obj rfl s1.2 rfl⟩
    · exact ⟨⟨1, 0, 0, 0⟩, rfl, one_obj rfl s1.1 rfl⟩
    · exact ⟨⟨(p 20).1, (p 20).2, 0, 0⟩, rfl, one_obj rfl s0.2 rfl⟩
    · exact ⟨⟨0, 0, 0, 0⟩, rfl, one_obj rfl s0.1 rfl⟩
    · exact ⟨⟨12, 0, 0, 0⟩, rfl, one_obj rfl hm rfl⟩
  inj := fun b b' o o' x x' h1 h2 hr _ _ _ => by
    rw [get0_ro h1, get0_ro h2] at hr
    simp at hr
  lt := fun b x hb => by
    unfold env0 at hb
    split at hb
    · cases hb; show b < _; omega
    · split at hb
      · cases hb
        show (p b).1 < _
        have : b = 20 ∨ b = 21 ∨ b = 22 ∨ b = 23 := by omega
        rcases this with rfl | rfl | rfl | rfl
        · exact lt_of_cell s0.2
        · exact lt_of_cell s1.2
        · exact lt_of_cell s2.2
        · exact lt_of_cell s3.2
      · cases hb
  new := fun b hb => by
    have hb' : 24 ≤ b := hb
    unfold env0
    rw [if_neg (by omega), if_neg (by omega)]
end Go.Proofs.YtfdplefijefeiaaGreatDoor
namespace Go.Proofs.YtfdplefijefeiaaGreatDoor.numbers
open Go.ChangeShapes Go.WideShapes Go.ChangeAt Go.RowKit Go.Dx

/-- the list of the row -/
def laidRow : List (String × DataW Unit) := Rows.clientNumbersRow.laid
theorem laid_plain (W : World) : laidMetH Tryz.prog laidRow W = laidMet Tryz.prog laidRow W := MakeChecks.laidMetH_plain _ _ _ (by kernel_rfl)
/-- a world for a witness: the listed variables hold what they are listed with -/
noncomputable def laidWorld (os : Os) : World := World.laidAll Tryz.prog os laidRow
theorem laid_met (os : Os) (args : Array Value) : laidMet Tryz.prog laidRow ((laidWorld os).forCall (fun _ _ => 0) { blocks := #[], args := args }).memory :=
  laidMet_laidAll args (by kernel_rfl) (by kernel_rfl)

theorem shown_any (W : World) (hL : laidMetH Tryz.prog Rows.clientNumbersRow.laid W) (hS : W.ShapedOpen Tryz.prog) : Calls Tryz.prog 7 #[] W fun e W' => e = .returned (.bool true) ∧ Below W.heap.size W W' := by
  have hL : laidMet Tryz.prog laidRow W := laid_plain W ▸ hL
  have h5 := laid_tail (laid_tail (laid_tail (laid_tail hL)))
  obtain ⟨b1, o1, s1⟩ := sent_of (g := 1) h5 (by kernel_rfl) (by kernel_rfl)
  obtain ⟨b2, o2, s2⟩ := sent_of (g := 2) (laid_tail h5) (by kernel_rfl) (by kernel_rfl)
  obtain ⟨b3, o3, s3⟩ := sent_of (g := 3) (laid_tail (laid_tail h5)) (by kernel_rfl) (by kernel_rfl)
  obtain ⟨b0, o0, s0⟩ := sent_of (g := 0) (laid_tail (laid_tail (laid_tail h5))) (by kernel_rfl) (by kernel_rfl)
  obtain ⟨m, hm⟩ := Tryz.laysM185.s1_3 W hS
  have hm : W.cell? ⟨12, 0, none⟩ = some (.int .i64 m) := hm
  have hr := run7 m
  rw [callF_eq] at hr
  obtain ⟨⟨v, h'⟩, hc, hv⟩ := Option.map_eq_some_iff.1 hr
  have hv : v = .bool true := hv
  subst hv
  have r := rep0 (fun g => match g with | 20 => (b0, o0) | 21 => (b1, o1) | 22 => (b2, o2) | _ => (b3, o3)) (size_of_shaped hS) hm s0 s1 s2 s3
  have hen : (callFunc 7 #[]).run Tryz.prog W = .ok (.enter 7 #[]) W := enters_of Tryz.func7 (by kernel_rfl) rfl _ _
  rcases call_sound pok 5000 (59 + 1) _ (h0 m) W 7 [] (.bool true) h' #[] hc (glob0 _) r rfl with ⟨f', args', h3, h4⟩ | ⟨rv, e', w', h3, _⟩
  · rw [hen] at h3
    cases h3
    refine h4.mono fun en w' ⟨e', rv, he, st, hval⟩ => ?_
    subst he
    simp only [val, Option.some.injEq] at hval
    subst hval
    refine ⟨rfl, st.os, st.tape, st.output, st.size, fun B hB => st.block B hB ?_⟩
    rintro ⟨b, o, x, h1, h2, _⟩
    rw [get0_ro h1] at h2
    cases h2
  · rw [hen] at h3
    cases h3

set_option maxHeartbeats 1000000 in
theorem walk (W : World) (hL : laidMetH Tryz.prog Rows.clientNumbersRow.laid W) (hS : W.ShapedOpen Tryz.prog) : Calls Tryz.prog 4 #[] W fun e W' => e = .returned (.bool true) ∧ Below W.heap.size W W' := by
  have hs := shown_any W hL hS
  clear hL hS
  go_enter Tryz.func4, Tryz.ntmps4
  go_wp2_with fail
  refine hs.mono ?_
  rintro e w1 ⟨rfl, hb⟩
  go_wp2_with fail
  go_ret
  exact ⟨rfl, hb⟩

theorem contract (H : Type) (enc : TypeId × Value → H) (W : World) (args : Array Value) (ds gs : List (DataW H)) (before : List MemPlace)
    (hW : DataW.Whole enc Tryz.prog Tryz.f4.params.toList Rows.clientNumbersSpec.vars false W args.toList ds gs before) (hL : laidMetH Tryz.prog Rows.clientNumbersRow.laid W) (hS : W.ShapedOpen Tryz.prog) :
    Calls Tryz.prog 4 args W fun e W' => ∃ v, e = .returned v ∧ Rows.clientNumbersSpec.post enc Tryz.prog Tryz.f4 false true false false W args v W' := by
  have hW' := hW
  obtain ⟨p, q, hA0, hV, rfl, hfz, hnd⟩ := hW
  have hA : DataW.TrodAll enc Tryz.prog W 0 (fun _ => true) true Tryz.f4.params.toList args.toList ds p := hA0
  rw [Tryz.params4] at hA
  obtain ⟨hargs, rfl, rfl⟩ := trodAll_nil hA
  obtain rfl : args = #[] := by cases args; simp_all
  obtain ⟨rfl, rfl⟩ := trodVars_none hV
  refine (walk W hL hS).mono fun e W' ⟨he, hb⟩ => ?_
  subst he
  exact ⟨_, rfl, _, _, _, [], [], [], hW', trodAll_mk1 (shut_bool Tryz.underlying4 _), trodAll_mk0, rfl, hb.frame _, fun h => by cases h⟩

theorem reads (os : Os) {H : Type} (enc : TypeId × Value → H) : ∃ places, DataW.whole enc Tryz.prog ((laidWorld os).forCall (fun _ _ => 0) ⟨#[], #[], []⟩).memory Tryz.f4.params.toList Rows.clientNumbersSpec.vars false (#[] : Array Value).toList 8 = some ([], [], places) :=
  ⟨[], by kernel_rfl⟩

set_option maxRecDepth 100000 in
theorem lifted (os : Os) (started : os.Started) (H : Type) (enc : TypeId × Value → H) (F : Stop.Interp) :
    ReturnsInHanded {} Tryz.checked os 4 .any ((OpenSpec.ofChange Rows.clientNumbersSpec).preRow enc Tryz.prog Tryz.f4 Rows.clientNumbersRow.domain false Rows.clientNumbersRow.laid) (((OpenSpec.ofChange Rows.clientNumbersSpec).at F).post enc Tryz.prog Tryz.f4 false true false false) := by
  obtain ⟨places, hx⟩ := reads os enc
  refine returnsInHanded_of_row (C := Tryz.checked) (s := OpenSpec.ofChange Rows.clientNumbersSpec) own started (by kernel_rfl) Tryz.func4
    (witness_row_at (enc := enc) (C := Tryz.checked) false (laidWorld os) #[] (World.laidAll_os _ _ _) (by kernel_rfl) (by kernel_rfl) (by kernel_rfl)
      (OpenSpec.preRow_of_cond 8 hx (by kernel_rfl) (fun k hk => by cases hk) (by kernel_rfl) (by show laidMetH Tryz.prog laidRow _; rw [laid_plain]; exact laid_met os #[]))) ?_
  intro W base args ds gs before hval hW _ _ _ hL hS _
  exact contract H enc W args ds gs before hW hL hS

theorem said : Rows.ClientNumbersSaid :=
  OpenClaim.holds_of_cond 4 Tryz.f4 rfl rfl rfl rfl rfl rfl rfl ⟨rfl, rfl, rfl, rfl, rfl⟩ rfl rfl rfl rfl rfl (by kernel_rfl) Tryz.func4 closed
    (of_decide_eq_true (by kernel_rfl)) (by unfold Func.isWrapper; first | (rw [if_pos (by decide +kernel)]; kernel_rfl) | (rw [if_neg (by decide +kernel)]; exact ⟨rfl, rfl⟩))
    (fun os started H enc _ F => by rw [OpenClaim.pre_eq_preRow]; exact lifted os started H enc F)

theorem plain (f : FuncId) (fn : Func) (hf : Tryz.pinned.checked.prog.funcNamed "stint/stintlaw22.ClientNumbers" = some f) (hfn : Tryz.pinned.checked.prog.funcs[f]? = some fn) :
    true = Tryz.pinned.checked.prog.looks [] ∧ ∀ (j : Nat) t, fn.params[j]? = some t → Tryz.pinned.checked.prog.wantsStandIn t = false := by
  obtain rfl : f = 4 := Option.some.inj ((show Tryz.prog.funcNamed "stint/stintlaw22.ClientNumbers" = some 4 by kernel_rfl).symm.trans hf) |>.symm
  obtain rfl : fn = Tryz.f4 := (Option.some.inj (Tryz.func4.symm.trans hfn)).symm
  refine ⟨by kernel_rfl, fun j t ht => ?_⟩
  rw [Tryz.params4] at ht
  simp at ht

/-- THE CARD -/
theorem card : Rows.ClientNumbersCardSaid :=
  Claim7.holds_tied_plain_at .later [] _ _ _ _ said (fun _ h => by cases h) (by kernel_rfl) (fun _ h => by cases h) clientNumbers_row_tie rfl ⟨rfl, rfl⟩ (by kernel_rfl) rfl plain (by kernel_rfl)
#print axioms card
end Go.Proofs.YtfdplefijefeiaaGreatDoor.numbers
