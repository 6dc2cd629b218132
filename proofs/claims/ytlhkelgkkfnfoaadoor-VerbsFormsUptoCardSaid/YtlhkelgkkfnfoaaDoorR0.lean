/- Regions that draw: one operation that alone may come up; two loads in either order. -/
import Derived.Orders
import Derived.RegionTactic
import Derived.Laws.Rows
import Derived.Laws.Tables
namespace Go.Proofs.YtlhkelgkkfnfoaaDoor
open Go

section
variable {P : Program} {md : Region.Mode} {ops : Array Oper} {Q : Exit → Act → World → Prop} {fuel : Nat} {listed : Array Bool} {a : Act} {w : World}
/-- one alone may come up -/
theorem any_one (i : Nat) {o : Oper} (hr : Region.ready md ops listed = [i]) (ho : ops[i]? = some o) (hw : Region.wanted o (yielded ops a.tmps) = true)
    (h : ∀ K : Act → World → Prop, (∀ a w, wpAny P md ops Q fuel (listed.setIfInBounds i true) a w → K a w) → Oper.wp P o a w K Q) : wpAny P md ops Q (fuel + 1) listed a w :=
  wpAny_ready hr (by simp) (AllReady.cons ho (fun K hK => by rw [if_pos hw]; exact h K hK) AllReady.nil)
theorem op_value {i : Nat} {o : Oper} {v : Value} {K : Act → World → Prop} (ho : ops[i]? = some o) (hw : Region.wanted o (yielded ops a.tmps) = true) (hv : (execOp a.eval o).run P w = .ok (.value v) w) (h : K (a.put o.dst v) w) : wpOp P ops Q i K a w := by
  unfold wpOp
  rw [ho]
  show if Region.wanted o (yielded ops a.tmps) = true then _ else _
  rw [if_pos hw]
  refine .inl ?_
  unfold Oper.wp
  rw [hv]
  exact h
/-- two that only read, in either order -/
theorem any_two (i j : Nat) {oi oj : Oper} (u v : Value) (hr : Region.ready md ops listed = [i, j]) (hi : Region.ready md ops (listed.setIfInBounds i true) = [j]) (hj : Region.ready md ops (listed.setIfInBounds j true) = [i])
    (hoi : ops[i]? = some oi) (hoj : ops[j]? = some oj) (hwi : Region.wanted oi (yielded ops a.tmps) = true) (hwj : Region.wanted oj (yielded ops a.tmps) = true)
    (hwi' : Region.wanted oi (yielded ops (a.put oj.dst v).tmps) = true) (hwj' : Region.wanted oj (yielded ops (a.put oi.dst u).tmps) = true)
    (hu : (execOp a.eval oi).run P w = .ok (.value u) w) (hv : (execOp a.eval oj).run P w = .ok (.value v) w)
    (hu' : (execOp (a.put oj.dst v).eval oi).run P w = .ok (.value u) w) (hv' : (execOp (a.put oi.dst u).eval oj).run P w = .ok (.value v) w)
    (hc : (a.put oj.dst v).put oi.dst u = (a.put oi.dst u).put oj.dst v) (hl : (listed.setIfInBounds j true).setIfInBounds i true = (listed.setIfInBounds i true).setIfInBounds j true)
    (h : wpAny P md ops Q fuel ((listed.setIfInBounds i true).setIfInBounds j true) ((a.put oi.dst u).put oj.dst v) w) : wpAny P md ops Q (fuel + 1 + 1) listed a w := by
  refine wpAny_all hr (by simp) fun k hk => ?_
  simp only [List.mem_cons, List.not_mem_nil, or_false] at hk
  rcases hk with rfl | rfl
  · refine op_value hoi hwi hu (wpAny_all hi (by simp) fun m hm => ?_)
    simp only [List.mem_cons, List.not_mem_nil, or_false] at hm
    subst hm
    exact op_value hoj hwj' hv' h
  · refine op_value hoj hwj hv (wpAny_all hj (by simp) fun m hm => ?_)
    simp only [List.mem_cons, List.not_mem_nil, or_false] at hm
    subst hm
    refine op_value hoi hwi' hu' ?_
    rw [hc, hl]
    exact h
theorem load_row_run {o : Oper} (ty : TypeId) (x : Operand) (ho : o.op = .load ty x)
    (g : Nat) (hx : a.eval x = .pointer (some ⟨g, 0, none⟩)) (t : TypeId) (cs : Array Value) (fr : Nat × Nat) (d : TypeDesc) (hg : w.heap[g]? = some (.cells cs t fr))
    (hu : P.underlying ty = some d) (hd : (match d with | .struct _ | .array _ _ => true | _ => false) = true) (hi : (P.info? ty).map (·.size) = some cs.size) : (execOp a.eval o).run P w = .ok (.value (.agg cs)) w := by
  unfold execOp
  simp only [ho, hx, Instr.loadAt, Instr.sureAddr, Sem.run_bind, Sem.run_pure, Result.andThen_ok, run_loadVar_row w g t ty cs fr d hg hu hd hi]
theorem index_run {o : Oper} (ty : TypeId) (x y : Operand) (ho : o.op = .index ty x y) (vx vy : Value) (hx : a.eval x = vx) (hy : a.eval y = vy) {v : Value} (hr : (Instr.index ty vx vy).run P w = .ok v w) :
    (execOp a.eval o).run P w = .ok (.value v) w := by
  unfold execOp
  simp only [ho, hx, hy, Sem.run_bind, hr, Result.andThen_ok, Sem.run_pure]
theorem addr_run {o : Oper} (ty : TypeId) (x y : Operand) (ho : o.op = .indexAddr ty x y) (vx vy : Value) (hx : a.eval x = vx) (hy : a.eval y = vy) {v : Value} (hr : (Instr.indexAt ty vx vy).run P w = .ok v w) :
    (execOp a.eval o).run P w = .ok (.value v) w := by
  unfold execOp
  simp only [ho, hx, hy, Sem.run_bind, hr, Result.andThen_ok, Sem.run_pure]
theorem bin_run {o : Oper} (op : BinOp) (t u : TypeId) (x y : Operand) (ho : o.op = .binOp op t x y u) (vx vy : Value) (hx : a.eval x = vx) (hy : a.eval y = vy) {v : Value} (h0 : (eqGuard op t x y vx vy).run P w = .ok () w) (hr : (binOp op t vx vy).run P w = .ok v w) :
    (execOp a.eval o).run P w = .ok (.value v) w := by
  unfold execOp
  simp only [ho, hx, hy, Sem.run_bind, h0, hr, Result.andThen_ok, Sem.run_pure]
theorem load_run {o : Oper} (ty : TypeId) (x : Operand) (ho : o.op = .load ty x) (ad : Addr) (hx : a.eval x = .pointer (some ad)) {v : Value} (hl : (loadVar ty ad).run P w = .ok v w) :
    (execOp a.eval o).run P w = .ok (.value v) w := by
  unfold execOp
  simp only [ho, hx, Instr.loadAt, Instr.sureAddr, Sem.run_bind, Sem.run_pure, Result.andThen_ok, hl]
end
end Go.Proofs.YtlhkelgkkfnfoaaDoor
