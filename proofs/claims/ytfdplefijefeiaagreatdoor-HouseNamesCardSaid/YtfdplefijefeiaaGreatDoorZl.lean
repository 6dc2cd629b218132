/- D: equality (the operation), aggregates made, calls. -/
import Derived.Test.YtfdplefijefeiaaGreatDoorZk
namespace Go.Dx
open Go

/-- no number, no string -/
def NotNum : Value → Prop
  | .int _ _ => False
  | .string _ => False
  | .float _ _ => False
  | .complex _ _ _ => False
  | _ => True
theorem binOp_eql {T : TypeId} {vx : Value} (vy : Value) (h : NotNum vx) : binOp .eql T vx vy = (do pure (.bool (← Op.equal T vx vy))) := by
  cases vx <;> first | exact h.elim | (cases vy <;> rfl)
theorem binOp_neq {T : TypeId} {vx : Value} (vy : Value) (h : NotNum vx) : binOp .neq T vx vy = (do pure (.bool (!(← Op.equal T vx vy)))) := by
  cases vx <;> first | exact h.elim | (cases vy <;> rfl)
/-- types that are compared so -/
def BigTy : ETy → Prop
  | .prim (_ + 1) => False
  | _ => True
theorem notNum {e : Env} {et : TypeId → Option ETy} {d : Nat} {ety : ETy} {u v : DV} {ru : Value} {b : Bool} (hb : BigTy ety) (hu : val e u = some ru) (he : eqD et (d + 1) ety u v = some b) : NotNum ru := by
  have key : ∀ u : DV, val e u = some ru → (match u with | .int .. => False | .str _ => False | _ => True) → NotNum ru := fun u hu hs => by
    cases u <;> first
      | exact hs.elim
      | (simp only [val, Option.some.injEq] at hu; subst hu; trivial)
      | (simp only [val] at hu; split at hu <;> first | (simp only [Option.some.injEq] at hu; subst hu; trivial) | cases hu)
  refine key u hu ?_
  cases ety with
  | prim k =>
    cases k with
    | zero => simp only [eqD] at he; unfold eqBool at he; split at he <;> first | trivial | cases he
    | succ k => exact hb.elim
  | ptr => simp only [eqD] at he; unfold eqPtr at he; split at he <;> first | trivial | cases he
  | iface ne => simp only [eqD] at he; unfold eqIf at he; split at he <;> first | trivial | cases he
  | struct fs => simp only [eqD] at he; unfold eqAgg at he; split at he <;> first | trivial | cases he
  | ref k =>
    match k with
    | 0 => simp only [eqD] at he; unfold eqSl at he; split at he <;> first | trivial | cases he
    | 1 => simp only [eqD] at he; unfold eqMap at he; split at he <;> first | trivial | cases he
    | k + 2 => simp only [eqD] at he; unfold eqFn at he; split at he <;> first | trivial | cases he

section
variable {P : Program} {e : Env} {t : Fr} {a : Act} {h : DHeap} {w : World} {o : Oper} {D : DProg} {nx : Nx}

theorem eqv_core {op : BinOp} {x y : Operand} {T T' : TypeId} {ety : ETy} {neg b : Bool} {u v : DV} (r : Rep e h w) (ho : o.op = .binOp op T x y T') (hop : (op = .eql ∧ neg = false) ∨ (op = .neq ∧ neg = true)) {et : TypeId → Option ETy} (hbig : BigTy ety)
    (hu : val e u = some (a.eval x)) (he : eqD et 20 ety u v = some b) (heq : (Op.equalIn 10000 T (a.eval x) (a.eval y)).run P w = .ok b w) (hgd : (eqGuard op T x y (a.eval x) (a.eval y)).run P w = .ok () w) : NxOk P e h w (execOp a.eval o) (.same (.bool (b != neg))) := by
  have hnn := notNum (d := 19) hbig hu he
  have heq' : (Op.equal T (a.eval x) (a.eval y)).run P w = .ok b w := heq
  rcases hop with ⟨rfl, rfl⟩ | ⟨rfl, rfl⟩
  · refine .pure r (rv := .bool b) ?_ (by simp [val])
    simp [execOp, ho, Sem.run_bind, hgd, binOp_eql _ hnn, heq']
  · refine .pure r (rv := .bool !b) ?_ (by simp [val])
    simp [execOp, ho, Sem.run_bind, hgd, binOp_neq _ hnn, heq']
theorem nil_inv {v : DV} (hv : val e v = some .nilIface) : v = .nilIface := by
  cases v with
  | nilIface => rfl
  | ptr b o => obtain ⟨_, _, hx⟩ := ptr_val hv; cases hx
  | slice b o z l c tg => obtain ⟨_, _, hx⟩ := slice_val hv; cases hx
  | map m => obtain ⟨_, _, hx⟩ := map_val hv; cases hx
  | func fn f c => obtain ⟨_, _, _, _, hx⟩ := func_val hv; cases hx
  | iface ty v => obtain ⟨_, _, hx⟩ := iface_val hv; cases hx
  | agg cs => obtain ⟨_, _, hx⟩ := agg_val hv; cases hx
  | tuple cs => simp only [val] at hv; split at hv <;> simp at hv
  | clip b o z => simp only [val] at hv; split at hv <;> simp at hv
  | _ => simp [val] at hv
theorem ok_eqv_other {op : BinOp} {x y : Operand} {T T' : TypeId} {ety : ETy} {neg : Bool} (het : ∀ T x, D.etys T = some x → etyD P 8 T = some x ∧ ∃ i, P.info? T = some i ∧ i.comparable = true) (hg : Glob P e) (hf : FrR e t a.tmps) (r : Rep e h w) (ho : o.op = .binOp op T x y T') (hop : (op = .eql ∧ neg = false) ∨ (op = .neq ∧ neg = true))
    (hety : etyD P 8 T = some ety) (hbig : BigTy ety) (hni : ∀ ne, ety ≠ .iface ne) (hgt : P.eqGuardType P.depth T = false) {x' y' : Opd} (hx : opdD P x = some x') (hy : opdD P y = some y') (hn : opD D t h (.eqv neg ety x' y') = some nx) : NxOk P e h w (execOp a.eval o) nx := by
  have vx := opd_ok hg hf hx
  have vy := opd_ok hg hf hy
  simp only [opD] at hn
  split at hn
  · next b hb =>
    cases hn
    have heq := eqD_ok (w := w) het 20 9980 _ _ _ _ _ _ _ _ hety vx vy hb
    refine eqv_core r ho hop hbig vx hb heq ?_
    have hnil : a.eval x ≠ .nilIface := fun hc => by
      have hb' := hb
      have : x'.ev t = .nilIface := by
        rw [hc] at vx
        exact nil_inv vx
      rw [this] at hb'
      cases ety with
      | prim k =>
        cases k with
        | zero => simp [eqD, eqBool] at hb'
        | succ k => exact hbig.elim
      | ptr => simp [eqD, eqPtr] at hb'
      | iface ne => exact hni ne rfl
      | struct fs => simp [eqD, eqAgg] at hb'
      | ref k =>
        match k with
        | 0 => simp [eqD, eqSl] at hb'
        | 1 => simp [eqD, eqMap] at hb'
        | k + 2 => simp [eqD, eqFn] at hb'
    unfold eqGuard
    rcases hop with ⟨rfl, _⟩ | ⟨rfl, _⟩
    all_goals
      cases hvx : a.eval x <;> cases hvy : a.eval y <;> first
        | exact absurd hvx hnil
        | rfl
        | simp [Sem.run_bind, hgt]
  · cases hn
theorem ok_eqv_iface {op : BinOp} {x y : Operand} {T T' : TypeId} {ms : Array (String × TypeId)} {neg : Bool} (het : ∀ T x, D.etys T = some x → etyD P 8 T = some x ∧ ∃ i, P.info? T = some i ∧ i.comparable = true) (hg : Glob P e) (hf : FrR e t a.tmps) (r : Rep e h w) (ho : o.op = .binOp op T x y T') (hop : (op = .eql ∧ neg = false) ∨ (op = .neq ∧ neg = true))
    (hT : P.underlying T = some (.interface ms)) {x' y' : Opd} (hx : opdD P x = some x') (hy : opdD P y = some y') (hn : opD D t h (.eqv neg (.iface (!ms.isEmpty && !isConstO x && !isConstO y)) x' y') = some nx) : NxOk P e h w (execOp a.eval o) nx := by
  have vx := opd_ok hg hf hx
  have vy := opd_ok hg hf hy
  simp only [opD] at hn
  split at hn
  · next b hb =>
    cases hn
    have hb1 : eqIf D.etys (eqD D.etys 19) (!ms.isEmpty && !isConstO x && !isConstO y) (x'.ev t) (y'.ev t) = some b := hb
    have heq : (Op.equalIn (9999 + 1) T (a.eval x) (a.eval y)).run P w = .ok b w := eqIf_ok het (eqD_ok het 19 9980) hT vx vy hb1
    refine eqv_core r ho hop (ety := .iface (!ms.isEmpty && !isConstO x && !isConstO y)) True.intro vx hb heq ?_
    generalize x'.ev t = u at vx hb1
    generalize y'.ev t = v at vy hb1
    unfold eqIf at hb1
    split at hb1
    · split at hb1
      · cases hb1
      · next hne =>
        simp only [val, Option.some.injEq] at vx vy
        rw [← vx, ← vy]
        have hgi : ms.isEmpty = true → (Op.eqGuardIn Op.maxDepth T .nilIface .nilIface).run P w = .ok false w := fun hm => by
          show (Op.eqGuardIn (9999 + 1) T .nilIface .nilIface).run P w = _
          unfold Op.eqGuardIn
          rw [Sem.run_bind, run_underlying hT]
          show Result.ok (!ms.isEmpty) w = _
          rw [hm]
          rfl
        have hgk : ms.isEmpty = true → ∀ k : Bool → Sem Unit, ((Op.eqGuardIn Op.maxDepth T .nilIface .nilIface) >>= k).run P w = (k false).run P w := fun hm k => by rw [Sem.run_bind, hgi hm]; rfl
        unfold eqGuard
        rcases hop with ⟨rfl, _⟩ | ⟨rfl, _⟩
        all_goals
          cases x <;> cases y <;> first
            | rfl
            | exact (hgk (by simpa [isConstO] using hne) _).trans rfl
    · obtain ⟨ry, _, hy⟩ := iface_val vy
      simp only [val, Option.some.injEq] at vx
      rw [← vx, hy]
      rcases hop with ⟨rfl, _⟩ | ⟨rfl, _⟩ <;> rfl
    · obtain ⟨rx, _, hx⟩ := iface_val vx
      simp only [val, Option.some.injEq] at vy
      rw [← vy, hx]
      rcases hop with ⟨rfl, _⟩ | ⟨rfl, _⟩ <;> rfl
    · obtain ⟨rx, _, hx⟩ := iface_val vx
      obtain ⟨ry, _, hy⟩ := iface_val vy
      rw [hx, hy]
      rcases hop with ⟨rfl, _⟩ | ⟨rfl, _⟩ <;> rfl
    · cases hb1
  · cases hn
theorem callee_run {f : FuncId} {first captured : Array Value} {args : Array Value} {c : Call} {x : Operand} (ho : o.op = .call c) (hc : c.callee = .value x) (hv : a.eval x = .func (.func f) first captured) : (execOp a.eval o).run P w = (callFunc f (first ++ c.args.map a.eval ++ captured)).run P w := by
  simp [execOp, ho, resolve, hc, hv, Deferred.ofValue, invoke]
theorem ok_callF {c : Call} {f : FuncId} (hg : Glob P e) (hf : FrR e t a.tmps) (r : Rep e h w) (ho : o.op = .call c) (hc : c.callee = .value (.func f)) {xs : List Opd} (hx : opdsD P c.args = some xs) (hn : opD D t h (.callF f xs) = some nx) : NxOk P e h w (execOp a.eval o) nx := by
  have vx := opds_ok hg hf hx
  simp only [opD, Option.some.injEq] at hn
  subst hn
  refine ⟨rfl, #[] ++ c.args.map a.eval ++ #[], callee_run (args := #[]) ho hc rfl, ?_⟩
  rw [vx]
  simp
theorem ok_callV {c : Call} {x : Operand} (hg : Glob P e) (hf : FrR e t a.tmps) (r : Rep e h w) (ho : o.op = .call c) (hc : c.callee = .value x) {x' : Opd} {xs : List Opd} (hx : opdD P x = some x') (hxs : opdsD P c.args = some xs) (hn : opD D t h (.callV x' xs) = some nx) : NxOk P e h w (execOp a.eval o) nx := by
  have vx := opd_ok hg hf hx
  have vxs := opds_ok hg hf hxs
  simp only [opD] at hn
  split at hn
  · next f fi ca hb =>
    cases hn
    rw [hb] at vx
    obtain ⟨l1, l2, h1, h2, h3⟩ := func_val vx
    refine ⟨rfl, _, callee_run (args := #[]) ho hc h3, ?_⟩
    have := vals_append (vals_append h1 vxs) h2
    rw [this]
    simp
  · cases hn
end
end Go.Dx
