/- D: operations that only compute. -/
import Derived.Test.YtfdplefijefeiaaGreatDoorZ5
import Derived.IntWalk
namespace Go.Dx
open Go

/-- an own step stands for the model's -/
def NxOk (P : Program) (e : Env) (h : DHeap) (w : World) (s : Sem Next) : Nx → Prop
  | .same v => ∃ rv, s.run P w = .ok (.value rv) w ∧ val e v = some rv
  | .val v h' => ∃ e' w', Step e h w e' h' w' ∧ ((∃ rv, s.run P w = .ok (.value rv) w' ∧ val e' v = some rv) ∨ (s.run P w = .ok .skip w' ∧ v = undefD))
  | .call f args h' => h' = h ∧ ∃ rargs, s.run P w = (callFunc f rargs).run P w ∧ vals e args = some rargs.toList
theorem NxOk.pure {P : Program} {e : Env} {h : DHeap} {w : World} {s : Sem Next} {v : DV} {rv : Value} (r : Rep e h w) (hr : s.run P w = .ok (.value rv) w) (hv : val e v = some rv) : NxOk P e h w s (.same v) :=
  ⟨rv, hr, hv⟩

section
variable {P : Program} {e : Env} {t : Fr} {a : Act} {h : DHeap} {w : World} {o : Oper} {D : DProg} {nx : Nx}

theorem ok_move {x : Operand} (hg : Glob P e) (hf : FrR e t a.tmps) (r : Rep e h w) (ho : o.op = .move x ∨ o.op = .assign x) {y : Opd} (hx : opdD P x = some y) (hn : opD D t h (.mov y) = some nx) : NxOk P e h w (execOp a.eval o) nx := by
  simp only [opD, Option.some.injEq] at hn
  subst hn
  refine .pure r ?_ (opd_ok hg hf hx)
  rcases ho with ho | ho <;> simp [execOp, ho]
theorem ok_pick {c x y : Operand} (hg : Glob P e) (hf : FrR e t a.tmps) (r : Rep e h w) (ho : o.op = .pick c x y) {c' x' y' : Opd} (hc : opdD P c = some c') (hx : opdD P x = some x') (hy : opdD P y = some y') (hn : opD D t h (.pick c' x' y') = some nx) : NxOk P e h w (execOp a.eval o) nx := by
  have vc := opd_ok hg hf hc
  have vx := opd_ok hg hf hx
  have vy := opd_ok hg hf hy
  simp only [opD] at hn
  split at hn
  · next hb =>
    cases hn
    rw [hb] at vc
    refine .pure r ?_ vx
    simp only [val, Option.some.injEq] at vc
    simp [execOp, ho, ← vc, asBool]
  · next hb =>
    cases hn
    rw [hb] at vc
    refine .pure r ?_ vy
    simp only [val, Option.some.injEq] at vc
    simp [execOp, ho, ← vc, asBool]
  · cases hn
theorem ok_extract {x : Operand} {i : Nat} (hg : Glob P e) (hf : FrR e t a.tmps) (r : Rep e h w) (ho : o.op = .extract x i) {y : Opd} (hx : opdD P x = some y) (hn : opD D t h (.extract y i) = some nx) : NxOk P e h w (execOp a.eval o) nx := by
  have vx := opd_ok hg hf hx
  simp only [opD] at hn
  split at hn
  · next vs hb =>
    rw [hb] at vx
    split at hn
    · next v hv =>
      cases hn
      simp only [val] at vx
      cases hl : vals e vs with
      | none => simp [hl] at vx
      | some l =>
        simp only [hl, Option.some.injEq] at vx
        obtain ⟨rv, h1, h2⟩ := vals_get hl hv
        refine .pure r ?_ h2
        simp [execOp, ho, ← vx, Instr.extract, h1]
    · cases hn
  · cases hn
theorem ok_iface {x : Operand} {ty : TypeId} {d : TypeDesc} (hg : Glob P e) (hf : FrR e t a.tmps) (r : Rep e h w) (ho : o.op = .makeInterface ty x) {y : Opd} (hx : opdD P x = some y) (hu : P.underlying ty = some d) (hd : ∀ ms, d ≠ .interface ms)
    (hn : opD D t h (.mkIface ty y) = some nx) : NxOk P e h w (execOp a.eval o) nx := by
  have vx := opd_ok hg hf hx
  simp only [opD, Option.some.injEq] at hn
  subst hn
  refine .pure r (rv := .iface ty (a.eval x)) ?_ (by simp [val, vx])
  have := run_underlying hu w
  cases d <;> first | exact absurd rfl (hd _) | simp [execOp, ho, Instr.makeInterface, Sem.run_bind, this]
theorem ok_func {fn : Fn} {xs ys : Array Operand} (hg : Glob P e) (hf : FrR e t a.tmps) (r : Rep e h w) (ho : o.op = .makeFunc fn xs ys) {xs' ys' : List Opd} (hx : opdsD P xs = some xs') (hy : opdsD P ys = some ys') (hn : opD D t h (.mkFunc fn xs' ys') = some nx) : NxOk P e h w (execOp a.eval o) nx := by
  have vx := opds_ok hg hf hx
  have vy := opds_ok hg hf hy
  simp only [opD, Option.some.injEq] at hn
  subst hn
  refine .pure r (rv := .func fn (xs.map a.eval) (ys.map a.eval)) ?_ ?_
  · simp [execOp, ho, Instr.makeFunc]
  · simp only [val, vx, vy, Option.some.injEq, Value.func.injEq, true_and]
    exact ⟨by rw [← Array.toList_map], by rw [← Array.toList_map]⟩
theorem ok_nilCheck {x : Operand} (hg : Glob P e) (hf : FrR e t a.tmps) (r : Rep e h w) (ho : o.op = .nilCheck x) {y : Opd} (hx : opdD P x = some y) (hn : opD D t h (.nilCheck y) = some nx) : NxOk P e h w (execOp a.eval o) nx := by
  have vx := opd_ok hg hf hx
  simp only [opD] at hn
  split at hn
  · cases hn
  · cases hn
  · cases hn
  · cases hn
  · next h1 h2 h3 h4 =>
    cases hn
    refine .pure r ?_ vx
    cases hv : y.ev t with
    | ptr b o' =>
      rw [hv] at vx
      cases hb : e b with
      | none => simp [val, hb] at vx
      | some z => simp only [val, hb, Option.some.injEq] at vx; simp [execOp, ho, ← vx]
    | slice b o' z l c tg =>
      rw [hv] at vx
      cases hb : e b with
      | none => simp [val, hb] at vx
      | some z => simp only [val, hb, Option.some.injEq] at vx; simp [execOp, ho, ← vx]
    | clip b o' z =>
      rw [hv] at vx
      cases hb : e b with
      | none => simp [val, hb] at vx
      | some z => simp only [val, hb, Option.some.injEq] at vx; simp [execOp, ho, ← vx]
    | map b =>
      rw [hv] at vx
      cases hb : e b with
      | none => simp [val, hb] at vx
      | some z => simp only [val, hb, Option.some.injEq] at vx; simp [execOp, ho, ← vx]
    | func fn f c =>
      rw [hv] at vx
      cases hb : vals e f with
      | none => simp [val, hb] at vx
      | some z =>
        cases hc : vals e c with
        | none => simp [val, hb, hc] at vx
        | some z2 =>
          simp only [val, hb, hc, Option.some.injEq] at vx
          cases fn with
          | method n => exact absurd hv (h4 _ _ _)
          | func f => simp [execOp, ho, ← vx]
          | methodOf t n => simp [execOp, ho, ← vx]
          | via t p f q => simp [execOp, ho, ← vx]
          | yield l => simp [execOp, ho, ← vx]
    | nilPtr => exact absurd hv h1
    | nilIface => exact absurd hv h2
    | nilFunc => exact absurd hv h3
    | bool b => rw [hv] at vx; simp only [val, Option.some.injEq] at vx; simp [execOp, ho, ← vx]
    | int k n => rw [hv] at vx; simp only [val, Option.some.injEq] at vx; simp [execOp, ho, ← vx]
    | str s => rw [hv] at vx; simp only [val, Option.some.injEq] at vx; simp [execOp, ho, ← vx]
    | nilSlice => rw [hv] at vx; simp only [val, Option.some.injEq] at vx; simp [execOp, ho, ← vx]
    | nilMap => rw [hv] at vx; simp only [val, Option.some.injEq] at vx; simp [execOp, ho, ← vx]
    | iface ty v =>
      rw [hv] at vx
      cases hb : val e v with
      | none => simp [val, hb] at vx
      | some z => simp only [val, hb, Option.some.injEq] at vx; simp [execOp, ho, ← vx]
    | agg cs =>
      rw [hv] at vx
      cases hb : vals e cs with
      | none => simp [val, hb] at vx
      | some z => simp only [val, hb, Option.some.injEq] at vx; simp [execOp, ho, ← vx]
    | tuple cs =>
      rw [hv] at vx
      cases hb : vals e cs with
      | none => simp [val, hb] at vx
      | some z => simp only [val, hb, Option.some.injEq] at vx; simp [execOp, ho, ← vx]
end
end Go.Dx
