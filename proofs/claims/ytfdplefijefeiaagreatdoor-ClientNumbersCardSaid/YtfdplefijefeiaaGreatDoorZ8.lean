/- The evaluator, part 8. -/
import Derived.Test.YtfdplefijefeiaaGreatDoorZ7
import Derived.Laws.Tables
import Derived.DataReads
/- D: equality (the operation), aggregates made, calls. -/
namespace Go.Dx
open Go

/-- no number, no string -/
def NotNum : Value → Prop
  | .int _ _ => False
  | .string _ => False
  | .float _ _ => False
  | .complex _ _ _ => False
  | _ => True
theorem binOp_eql {T : TypeId} {vx : Value} (vy : Value) (h : NotNum vx) : binOp .eql T vx vy = (do pure (.bool (← Op.equal T vx vy))) := by
  cases vx <;> first | exact h.elim | (cases vy <;> rfl)
theorem binOp_neq {T : TypeId} {vx : Value} (vy : Value) (h : NotNum vx) : binOp .neq T vx vy = (do pure (.bool (!(← Op.equal T vx vy)))) := by
  cases vx <;> first | exact h.elim | (cases vy <;> rfl)
/-- types that are compared so -/
def BigTy : ETy → Prop
  | .prim (_ + 1) => False
  | _ => True
theorem notNum {e : Env} {et : TypeId → Option ETy} {d : Nat} {ety : ETy} {u v : DV} {ru : Value} {b : Bool} (hb : BigTy ety) (hu : val e u = some ru) (he : eqD et (d + 1) ety u v = some b) : NotNum ru := by
  have key : ∀ u : DV, val e u = some ru → (match u with | .int .. => False | .str _ => False | _ => True) → NotNum ru := fun u hu hs => by
    cases u <;> first
      | exact hs.elim
      | (simp only [val, Option.some.injEq] at hu; subst hu; trivial)
      | (simp only [val] at hu; split at hu <;> first | (simp only [Option.some.injEq] at hu; subst hu; trivial) | cases hu)
  refine key u hu ?_
  cases ety with
  | prim k =>
    cases k with
    | zero => simp only [eqD] at he; unfold eqBool at he; split at he <;> first | trivial | cases he
    | succ k => exact hb.elim
  | ptr => simp only [eqD] at he; unfold eqPtr at he; split at he <;> first | trivial | cases he
  | iface ne => simp only [eqD] at he; unfold eqIf at he; split at he <;> first | trivial | cases he
  | struct fs => simp only [eqD] at he; unfold eqAgg at he; split at he <;> first | trivial | cases he
  | ref k =>
    match k with
    | 0 => simp only [eqD] at he; unfold eqSl at he; split at he <;> first | trivial | cases he
    | 1 => simp only [eqD] at he; unfold eqMap at he; split at he <;> first | trivial | cases he
    | k + 2 => simp only [eqD] at he; unfold eqFn at he; split at he <;> first | trivial | cases he

section
variable {P : Program} {e : Env} {t : Fr} {a : Act} {h : DHeap} {w : World} {o : Oper} {D : DProg} {nx : Nx}

theorem eqv_core {op : BinOp} {x y : Operand} {T T' : TypeId} {ety : ETy} {neg b : Bool} {u v : DV} (r : Rep e h w) (ho : o.op = .binOp op T x y T') (hop : (op = .eql ∧ neg = false) ∨ (op = .neq ∧ neg = true)) {et : TypeId → Option ETy} (hbig : BigTy ety)
    (hu : val e u = some (a.eval x)) (he : eqD et 20 ety u v = some b) (heq : (Op.equalIn 10000 T (a.eval x) (a.eval y)).run P w = .ok b w) (hgd : (eqGuard op T x y (a.eval x) (a.eval y)).run P w = .ok () w) : NxOk P e h w (execOp a.eval o) (.same (.bool (b != neg))) := by
  have hnn := notNum (d := 19) hbig hu he
  have heq' : (Op.equal T (a.eval x) (a.eval y)).run P w = .ok b w := heq
  rcases hop with ⟨rfl, rfl⟩ | ⟨rfl, rfl⟩
  · refine .pure r (rv := .bool b) ?_ (by simp [val])
    simp [execOp, ho, Sem.run_bind, hgd, binOp_eql _ hnn, heq']
  · refine .pure r (rv := .bool !b) ?_ (by simp [val])
    simp [execOp, ho, Sem.run_bind, hgd, binOp_neq _ hnn, heq']
theorem nil_inv {v : DV} (hv : val e v = some .nilIface) : v = .nilIface := by
  cases v with
  | nilIface => rfl
  | ptr b o => obtain ⟨_, _, hx⟩ := ptr_val hv; cases hx
  | slice b o z l c tg => obtain ⟨_, _, hx⟩ := slice_val hv; cases hx
  | map m => obtain ⟨_, _, hx⟩ := map_val hv; cases hx
  | func fn f c => obtain ⟨_, _, _, _, hx⟩ := func_val hv; cases hx
  | iface ty v => obtain ⟨_, _, hx⟩ := iface_val hv; cases hx
  | agg cs => obtain ⟨_, _, hx⟩ := agg_val hv; cases hx
  | tuple cs => simp only [val] at hv; split at hv <;> simp at hv
  | clip b o z => simp only [val] at hv; split at hv <;> simp at hv
  | _ => simp [val] at hv
theorem ok_eqv_other {op : BinOp} {x y : Operand} {T T' : TypeId} {ety : ETy} {neg : Bool} (het : ∀ T x, D.etys T = some x → etyD P 8 T = some x ∧ ∃ i, P.info? T = some i ∧ i.comparable = true) (hg : Glob P e) (hf : FrR e t a.tmps) (r : Rep e h w) (ho : o.op = .binOp op T x y T') (hop : (op = .eql ∧ neg = false) ∨ (op = .neq ∧ neg = true))
    (hety : etyD P 8 T = some ety) (hbig : BigTy ety) (hni : ∀ ne, ety ≠ .iface ne) (hgt : P.eqGuardType P.depth T = false) {x' y' : Opd} (hx : opdD P x = some x') (hy : opdD P y = some y') (hn : opD D t h (.eqv neg ety x' y') = some nx) : NxOk P e h w (execOp a.eval o) nx := by
  have vx := opd_ok hg hf hx
  have vy := opd_ok hg hf hy
  simp only [opD] at hn
  split at hn
  · next b hb =>
    cases hn
    have heq := eqD_ok (w := w) het 20 9980 _ _ _ _ _ _ _ _ hety vx vy hb
    refine eqv_core r ho hop hbig vx hb heq ?_
    have hnil : a.eval x ≠ .nilIface := fun hc => by
      have hb' := hb
      have : x'.ev t = .nilIface := by
        rw [hc] at vx
        exact nil_inv vx
      rw [this] at hb'
      cases ety with
      | prim k =>
        cases k with
        | zero => simp [eqD, eqBool] at hb'
        | succ k => exact hbig.elim
      | ptr => simp [eqD, eqPtr] at hb'
      | iface ne => exact hni ne rfl
      | struct fs => simp [eqD, eqAgg] at hb'
      | ref k =>
        match k with
        | 0 => simp [eqD, eqSl] at hb'
        | 1 => simp [eqD, eqMap] at hb'
        | k + 2 => simp [eqD, eqFn] at hb'
    unfold eqGuard
    rcases hop with ⟨rfl, _⟩ | ⟨rfl, _⟩
    all_goals
      cases hvx : a.eval x <;> cases hvy : a.eval y <;> first
        | exact absurd hvx hnil
        | rfl
        | simp [Sem.run_bind, hgt]
  · cases hn
theorem ok_eqv_iface {op : BinOp} {x y : Operand} {T T' : TypeId} {ms : Array (String × TypeId)} {neg : Bool} (het : ∀ T x, D.etys T = some x → etyD P 8 T = some x ∧ ∃ i, P.info? T = some i ∧ i.comparable = true) (hg : Glob P e) (hf : FrR e t a.tmps) (r : Rep e h w) (ho : o.op = .binOp op T x y T') (hop : (op = .eql ∧ neg = false) ∨ (op = .neq ∧ neg = true))
    (hT : P.underlying T = some (.interface ms)) {x' y' : Opd} (hx : opdD P x = some x') (hy : opdD P y = some y') (hn : opD D t h (.eqv neg (.iface (!ms.isEmpty && !isConstO x && !isConstO y)) x' y') = some nx) : NxOk P e h w (execOp a.eval o) nx := by
  have vx := opd_ok hg hf hx
  have vy := opd_ok hg hf hy
  simp only [opD] at hn
  split at hn
  · next b hb =>
    cases hn
    have hb1 : eqIf D.etys (eqD D.etys 19) (!ms.isEmpty && !isConstO x && !isConstO y) (x'.ev t) (y'.ev t) = some b := hb
    have heq : (Op.equalIn (9999 + 1) T (a.eval x) (a.eval y)).run P w = .ok b w := eqIf_ok het (eqD_ok het 19 9980) hT vx vy hb1
    refine eqv_core r ho hop (ety := .iface (!ms.isEmpty && !isConstO x && !isConstO y)) True.intro vx hb heq ?_
    generalize x'.ev t = u at vx hb1
    generalize y'.ev t = v at vy hb1
    unfold eqIf at hb1
    split at hb1
    · split at hb1
      · cases hb1
      · next hne =>
        simp only [val, Option.some.injEq] at vx vy
        rw [← vx, ← vy]
        have hgi : ms.isEmpty = true → (Op.eqGuardIn Op.maxDepth T .nilIface .nilIface).run P w = .ok false w := fun hm => by
          show (Op.eqGuardIn (9999 + 1) T .nilIface .nilIface).run P w = _
          unfold Op.eqGuardIn
          rw [Sem.run_bind, run_underlying hT]
          show Result.ok (!ms.isEmpty) w = _
          rw [hm]
          rfl
        have hgk : ms.isEmpty = true → ∀ k : Bool → Sem Unit, ((Op.eqGuardIn Op.maxDepth T .nilIface .nilIface) >>= k).run P w = (k false).run P w := fun hm k => by rw [Sem.run_bind, hgi hm]; rfl
        unfold eqGuard
        rcases hop with ⟨rfl, _⟩ | ⟨rfl, _⟩
        all_goals
          cases x <;> cases y <;> first
            | rfl
            | exact (hgk (by simpa [isConstO] using hne) _).trans rfl
    · obtain ⟨ry, _, hy⟩ := iface_val vy
      simp only [val, Option.some.injEq] at vx
      rw [← vx, hy]
      rcases hop with ⟨rfl, _⟩ | ⟨rfl, _⟩ <;> rfl
    · obtain ⟨rx, _, hx⟩ := iface_val vx
      simp only [val, Option.some.injEq] at vy
      rw [← vy, hx]
      rcases hop with ⟨rfl, _⟩ | ⟨rfl, _⟩ <;> rfl
    · obtain ⟨rx, _, hx⟩ := iface_val vx
      obtain ⟨ry, _, hy⟩ := iface_val vy
      rw [hx, hy]
      rcases hop with ⟨rfl, _⟩ | ⟨rfl, _⟩ <;> rfl
    · cases hb1
  · cases hn
theorem callee_run {f : FuncId} {first captured : Array Value} {args : Array Value} {c : Call} {x : Operand} (ho : o.op = .call c) (hc : c.callee = .value x) (hv : a.eval x = .func (.func f) first captured) : (execOp a.eval o).run P w = (callFunc f (first ++ c.args.map a.eval ++ captured)).run P w := by
  simp [execOp, ho, resolve, hc, hv, Deferred.ofValue, invoke]
theorem ok_callF {c : Call} {f : FuncId} (hg : Glob P e) (hf : FrR e t a.tmps) (r : Rep e h w) (ho : o.op = .call c) (hc : c.callee = .value (.func f)) {xs : List Opd} (hx : opdsD P c.args = some xs) (hn : opD D t h (.callF f xs) = some nx) : NxOk P e h w (execOp a.eval o) nx := by
  have vx := opds_ok hg hf hx
  simp only [opD, Option.some.injEq] at hn
  subst hn
  refine ⟨rfl, #[] ++ c.args.map a.eval ++ #[], callee_run (args := #[]) ho hc rfl, ?_⟩
  rw [vx]
  simp
theorem ok_callV {c : Call} {x : Operand} (hg : Glob P e) (hf : FrR e t a.tmps) (r : Rep e h w) (ho : o.op = .call c) (hc : c.callee = .value x) {x' : Opd} {xs : List Opd} (hx : opdD P x = some x') (hxs : opdsD P c.args = some xs) (hn : opD D t h (.callV x' xs) = some nx) : NxOk P e h w (execOp a.eval o) nx := by
  have vx := opd_ok hg hf hx
  have vxs := opds_ok hg hf hxs
  simp only [opD] at hn
  split at hn
  · next f fi ca hb =>
    cases hn
    rw [hb] at vx
    obtain ⟨l1, l2, h1, h2, h3⟩ := func_val vx
    refine ⟨rfl, _, callee_run (args := #[]) ho hc h3, ?_⟩
    have := vals_append (vals_append h1 vxs) h2
    rw [this]
    simp
  · cases hn
end
end Go.Dx
/- D: methods, aggregates that are made. -/
namespace Go.Dx
open Go

section
variable {P : Program} {e : Env} {t : Fr} {a : Act} {h : DHeap} {w : World} {o : Oper} {D : DProg} {nx : Nx}

theorem run_method {T : TypeId} {name : String} {f : Nat} {v : Value} (hm : methodD P T name = some (f, .same)) (n : Nat) : (method (n + 1) T v name).run P w = .ok (f, v) w := by
  unfold methodD at hm
  simp only [Option.bind_eq_bind] at hm
  obtain ⟨i, hi, hm⟩ := bind_some hm
  obtain ⟨m, hmf, hm⟩ := bind_some hm
  split at hm
  · cases hm
  next hpath =>
  have hp0 : m.path = #[] := by
    have : m.path.size = 0 := by simpa using hpath
    exact Array.eq_empty_of_size_eq_zero this
  obtain ⟨q, hq, hm⟩ := bind_some hm
  obtain ⟨f', ptr⟩ := q
  unfold method
  simp only [Sem.run_bind, typeInfo]
  have hprog : (program).run P w = .ok P w := rfl
  simp only [hprog, Result.andThen_ok, hi]
  show Sem.run P _ w = _
  simp only [Sem.run_pure, Result.andThen_ok, hmf, hp0, follow, hq]
  split at hm
  · next hu hp =>
    simp only [Option.some.injEq, Prod.mk.injEq] at hm
    obtain ⟨rfl, _⟩ := hm
    have hp : ptr = true := hp
    subst hp
    simp [receiverAt, Sem.run_bind, run_underlying hu, Place.get]
  · cases hm
  · rename_i d hnp hu hp
    simp only [Option.some.injEq, Prod.mk.injEq] at hm
    obtain ⟨rfl, _⟩ := hm
    have hp : ptr = false := hp
    subst hp
    cases d <;> first | exact (hnp _ hu rfl).elim | exact (hnp _ hu).elim | exact (hnp _ rfl).elim | simp [receiverAt, Sem.run_bind, run_underlying hu, Place.get]
  · cases hm
theorem ok_callM {c : Call} {x : Operand} {name : String} (hmt : ∀ T name q, D.methods T name = some q → q.2 = .same ∧ methodD P T name = some q) (hg : Glob P e) (hf : FrR e t a.tmps) (r : Rep e h w) (ho : o.op = .call c) (hc : c.callee = .invoke x name) {x' : Opd} {xs : List Opd} (hx : opdD P x = some x') (hxs : opdsD P c.args = some xs) (hn : opD D t h (.callM x' name xs) = some nx) : NxOk P e h w (execOp a.eval o) nx := by
  have vx := opd_ok hg hf hx
  have vxs := opds_ok hg hf hxs
  simp only [opD] at hn
  split at hn
  · next ty v hb =>
    rw [hb] at vx
    obtain ⟨rv, hrv, hv⟩ := iface_val vx
    split at hn
    · next f hmm =>
      cases hn
      obtain ⟨_, hmd⟩ := hmt _ _ _ hmm
      refine ⟨rfl, #[rv] ++ c.args.map a.eval, ?_, ?_⟩
      · have hme : (method (P.types.size + Made.depth) ty rv name).run P w = .ok (f, rv) w := by
          rw [show P.types.size + Made.depth = (P.types.size + 99) + 1 from rfl]
          exact run_method hmd _
        have hprog : (program).run P w = .ok P w := rfl
        have h0 : (#[Value.iface ty rv] ++ Array.map a.eval c.args)[0]? = some (.iface ty rv) := by rw [Array.getElem?_append_left (Nat.zero_lt_one)]; rfl
        simp [execOp, ho, resolve, hc, hv, invoke, callMethod, Sem.run_bind]
        rw [h0]
        simp only [Sem.run_bind, hprog, Result.andThen_ok, hme]
        congr 1
        congr 1
        congr 1
        rw [← Array.size_map (f := a.eval) (xs := c.args)]
        exact Array.extract_size
      · have := vals_cons_of hrv vxs
        rw [this]
        simp
    · cases hn
    · cases hn
  · cases hn
theorem ok_assertI {x : Operand} {X T : TypeId} {cok : Bool} {want : Array (String × TypeId)} (him : ∀ T U b, D.impl T U = some b → implD P T U = some b) (hz : zeroT P T = some .nilIface) (hg : Glob P e) (hf : FrR e t a.tmps) (r : Rep e h w) (ho : o.op = .typeAssert x X T cok) (hu : P.underlying T = some (.interface want)) {x' : Opd} (hx : opdD P x = some x') (hn : opD D t h (.assertI x' T cok) = some nx) : NxOk P e h w (execOp a.eval o) nx := by
  have vx := opd_ok hg hf hx
  obtain ⟨zv, hz1, hz2⟩ := run_zeroT hz e w
  simp only [val, Option.some.injEq] at hz2
  subst hz2
  simp only [opD] at hn
  split at hn
  · next hb =>
    rw [hb] at vx
    simp only [val, Option.some.injEq] at vx
    split at hn
    · next hc =>
      cases hn
      subst hc
      refine .pure r (rv := .tuple #[.nilIface, .bool false]) ?_ rfl
      simp [execOp, ho, ← vx, Instr.typeAssert, Sem.run_bind, run_underlying hu, hz1]
    · cases hn
  · next ty v hb =>
    rw [hb] at vx
    have vx' := vx
    obtain ⟨rv, hrv, hv⟩ := iface_val vx
    have himp : ∀ b, D.impl ty T = some b → ∃ i, P.info? ty = some i ∧ (Instr.missingMethod want i.methods).isNone = b := fun b hb => by
      have := him _ _ _ hb
      unfold implD at this
      simp only [Option.bind_eq_bind] at this
      obtain ⟨i, hi, this⟩ := bind_some this
      rw [hu] at this
      simp only [Option.pure_def, Option.some.injEq] at this
      exact ⟨i, hi, this⟩
    split at hn
    · next hi =>
      cases hn
      obtain ⟨i, h1, h2⟩ := himp _ hi
      have h3 : Instr.missingMethod want i.methods = none := by simpa using h2
      cases cok with
      | true =>
        refine .pure r (rv := .tuple #[.iface ty rv, .bool true]) ?_ (by simp [val, vals, hrv])
        simp [execOp, ho, hv, Instr.typeAssert, Sem.run_bind, run_underlying hu, typeInfo, h1, h3]
      | false =>
        refine .pure r (rv := .iface ty rv) ?_ (by simp [val, hrv])
        simp [execOp, ho, hv, Instr.typeAssert, Sem.run_bind, run_underlying hu, typeInfo, h1, h3]
    · next hi =>
      split at hn
      · next hc =>
        cases hn
        subst hc
        obtain ⟨i, h1, h2⟩ := himp _ hi
        obtain ⟨mm, h3⟩ : ∃ m, Instr.missingMethod want i.methods = some m := by
          cases hmm : Instr.missingMethod want i.methods with
          | none => rw [hmm] at h2; cases h2
          | some m => exact ⟨m, rfl⟩
        refine .pure r (rv := .tuple #[.nilIface, .bool false]) ?_ rfl
        simp [execOp, ho, hv, Instr.typeAssert, Sem.run_bind, run_underlying hu, typeInfo, h1, h3, hz1]
      · cases hn
    · cases hn
  · cases hn
theorem replicate_vals {z : DV} {zv : Value} (hz : val e z = some zv) (n : Nat) : vals e (List.replicate n z.cells).flatten = some (List.replicate n zv.cells.toList).flatten := by
  induction n with
  | zero => rfl
  | succ n ih =>
    rw [List.replicate_succ, List.replicate_succ, List.flatten_cons, List.flatten_cons]
    exact vals_append (cells_val hz) ih
theorem flat_rep (zs : List Value) : ∀ (n i : Nat), i < n * zs.length → (List.replicate n zs).flatten[i]? = zs[i % zs.length]?
  | 0, i, h => by omega
  | n + 1, i, h => by
    rw [List.replicate_succ, List.flatten_cons]
    rw [Nat.add_mul, Nat.one_mul] at h
    by_cases hi : i < zs.length
    · rw [List.getElem?_append_left hi, Nat.mod_eq_of_lt hi]
    · rw [List.getElem?_append_right (by omega), flat_rep zs n (i - zs.length) (by omega)]
      congr 1
      exact (Nat.mod_eq_sub_mod (by omega)).symm
theorem range_mod (zs : Array Value) (n : Nat) : (Array.range (n * zs.size)).map (zs[· % zs.size]!) = (List.replicate n zs.toList).flatten.toArray := by
  apply Array.ext'
  apply List.ext_getElem?
  intro i
  by_cases hi : i < n * zs.size
  · have hp : 0 < zs.size := by
      rcases Nat.eq_zero_or_pos zs.size with h0 | h0
      · rw [h0] at hi; omega
      · exact h0
    have hm : i % zs.size < zs.size := Nat.mod_lt _ hp
    have := flat_rep zs.toList n i (by simpa using hi)
    rw [show (List.replicate n zs.toList).flatten.toArray.toList = (List.replicate n zs.toList).flatten by simp, this]
    simp [hi, hm]
  · rw [List.getElem?_eq_none (by simp; omega), List.getElem?_eq_none (by simp; omega)]
theorem ok_mkSlice {T el : TypeId} {l c : Operand} {i : TypeInfo} {zv : Value} {z : DV} (hg : Glob P e) (hf : FrR e t a.tmps) (r : Rep e h w) (ho : o.op = .makeSlice T l c) (hT : P.underlying T = some (.slice el)) (hi : P.info? el = some i) (hz : zeroT P el = some z)
    {l' c' : Opd} (hl : opdD P l = some l') (hc : opdD P c = some c') (hn : opD D t h (.mkSlice z.cells i.size i.bytes l' c') = some nx) : NxOk P e h w (execOp a.eval o) nx := by
  have vl := opd_ok hg hf hl
  have vc := opd_ok hg hf hc
  obtain ⟨zv, hz1, hz2⟩ := run_zeroT hz e w
  simp only [opD] at hn
  split at hn
  · next n m hnl hnc =>
    obtain ⟨k1, hk1⟩ := natOf_val hnl vl
    obtain ⟨k2, hk2⟩ := natOf_val hnc vc
    split at hn
    · next hle =>
      cases hn
      obtain ⟨h1, h2, h2b, h3⟩ := hle
      have hzl : zv.cells.size = i.size := by rw [← h3]; have := vals_length (cells_val hz2); simpa using this
      have hst := step_new_cells r (replicate_vals hz2 m) [] el 0 0 (by simp)
      rw [List.append_nil] at hst
      refine ⟨_, _, hst, .inl ⟨.slice (some ⟨w.heap.size, 0, none⟩) n m, ?_, by simp [val, Env.add]⟩⟩
      have hw1 : IntKind.i64.wrap (n : Int) = n := wrap_in _ _ (by simp [IntKind.signed, IntKind.bits] <;> omega) (by simp [IntKind.signed, IntKind.bits] <;> omega)
      have hw2 : IntKind.i64.wrap (m : Int) = m := wrap_in _ _ (by simp [IntKind.signed, IntKind.bits] <;> omega) (by simp [IntKind.signed, IntKind.bits] <;> omega)
      have hbm : (i.bytes : Int) * (m : Int) ≤ 1073741824 := by rw [← Int.natCast_mul]; omega
      have hrow : (newRow el ((Array.range (m * i.size)).map ((if m * i.size = 0 then (#[] : Array Value) else zv.cells)[· % (if m * i.size = 0 then (#[] : Array Value) else zv.cells).size]!))).run P w = .ok ⟨w.heap.size, 0, none⟩ (w.alloc (.cells (List.replicate m zv.cells.toList).flatten.toArray el)) := by
        rw [run_newRow]
        congr 3
        by_cases h0 : m * i.size = 0
        · simp only [h0, if_true]
          rcases Nat.mul_eq_zero.1 h0 with hm0 | hs0
          · rw [hm0]; simp
          · have : zv.cells = #[] := Array.eq_empty_of_size_eq_zero (by rw [hzl, hs0])
            rw [this]
            simp
        · simp only [h0, if_false]
          rw [← hzl]
          exact range_mod _ _
      have hask : ∀ b w, (askRoom b).run P w = .ok () w := fun b w => by
        unfold askRoom
        split <;> rfl
      have hzr : (if m * i.size = 0 then (pure #[] : Sem (Array Value)) else (do pure (← zeroValue el).cells)).run P w = .ok (if m * i.size = 0 then (#[] : Array Value) else zv.cells) w := by
        by_cases h0 : m * i.size = 0
        · simp [h0]
        · simp [h0, Sem.run_bind, hz1]
      simp only [execOp, ho, Sem.run_bind]
      unfold Instr.makeSlice
      simp only [Sem.run_bind, run_underlying hT, Result.andThen_ok, hk1, hk2, asInt, asIntOf, Sem.run_pure, typeInfo, show (program).run P w = .ok P w from rfl, hi, hw1, hw2]
      rw [if_neg (by simp; omega)]
      have hsz : (sizeOf el).run P w = .ok i.size w := by simp [sizeOf, typeInfo, hi]
      simp only [Sem.run_bind, hask, Result.andThen_ok, Int.toNat_natCast, hsz]
      by_cases h0 : m * i.size = 0
      · simp only [h0, if_true] at hrow
        rw [if_pos h0]
        simp only [Sem.run_bind, Sem.run_pure, Result.andThen_ok, h0, hrow]
      · simp only [h0, if_false] at hrow
        rw [if_neg h0]
        simp only [Sem.run_bind, Sem.run_pure, Result.andThen_ok, hz1, hrow]
    · cases hn
  · cases hn
end
end Go.Dx
/- D: structs and slices that are written out. -/
namespace Go.Dx
open Go

theorem foldl_put : ∀ (vs : List Value) (k : Nat) (cells : List Value) (off : Nat), off + k + vs.length ≤ cells.length →
    ((vs.zipIdx k).foldl (fun (cs : Array Value) (x : Value × Nat) => cs.setIfInBounds (off + x.2) x.1) cells.toArray).toList = cells.take (off + k) ++ vs ++ cells.drop (off + k + vs.length)
  | [], k, cells, off, h => by simp
  | v :: vs, k, cells, off, h => by
    rw [List.zipIdx_cons, List.foldl_cons]
    simp only [List.setIfInBounds_toArray]
    simp only [List.length_cons] at h
    rw [foldl_put vs (k + 1) (cells.set (off + k) v) off (by simp; omega)]
    rw [show off + (k + 1) = off + k + 1 by omega, List.length_cons]
    have h1 : (cells.set (off + k) v).take (off + k + 1) = cells.take (off + k) ++ [v] := by
      rw [List.take_succ_eq_append_getElem (by simp; omega)]
      simp [List.take_set_of_le]
    have h2 : (cells.set (off + k) v).drop (off + k + 1 + vs.length) = cells.drop (off + k + (vs.length + 1)) := by
      rw [List.drop_set_of_lt (by omega)]
      congr 1
      omega
    rw [h1, h2]
    simp
theorem fill_ok {e : Env} {place : Nat → Option (Nat × Nat)} : ∀ {ps : List (Nat × Nat × DV)} {parts : List (Nat × Value)} {z cs : List DV} {rz : List Value}, vals e z = some rz → fillD z ps = some cs →
    ps.length = parts.length → (∀ (j : Nat) (off n : Nat) (d : DV), ps[j]? = some (off, n, d) → ∃ i v, parts[j]? = some (i, v) ∧ place i = some (off, n) ∧ val e d = some v) → ∃ rs, Instr.fill place rz.toArray parts = some rs.toArray ∧ vals e cs = some rs
  | [], parts, z, cs, rz, hz, hf, hl, _ => by
    have : parts = [] := List.length_eq_zero_iff.1 hl.symm
    subst this
    simp only [fillD, Option.some.injEq] at hf
    subst hf
    exact ⟨rz, rfl, hz⟩
  | (off, n, d) :: ps, parts, z, cs, rz, hz, hf, hl, hp => by
    obtain ⟨i, v, h1, h2, h3⟩ := hp 0 off n d rfl
    cases parts with
    | nil => simp at hl
    | cons q parts =>
      simp only [List.getElem?_cons_zero, Option.some.injEq] at h1
      subst h1
      simp only [fillD] at hf
      split at hf
      · next hle =>
        have hcv := cells_val h3
        have hcl := vals_length hcv
        have hzl := vals_length hz
        have hvs : v.cells.size = n := by have := hle.1; rw [← hcl] at this; simpa using this
        unfold Instr.fill
        simp only [h2]
        have hcond : (decide (v.cells.size ≠ n) || decide (off + v.cells.size > rz.toArray.size)) = false := by simp [hvs]; omega
        have hput : v.cells.zipIdx.foldl (fun cs (x : Value × Nat) => cs.setIfInBounds (off + x.2) x.1) rz.toArray = (rz.take off ++ v.cells.toList ++ rz.drop (off + v.cells.toList.length)).toArray := by
          apply Array.ext'
          rw [← Array.foldl_toList, Array.toList_zipIdx]
          have := foldl_put v.cells.toList 0 rz off (by simp [hvs]; omega)
          simpa using this
        obtain ⟨rs, g1, g2⟩ := fill_ok (place := place) (vals_put off hz hcv) hf (by simpa using hl) (fun j o' n' d' hj => by simpa using hp (j + 1) o' n' d' (by simpa using hj))
        refine ⟨rs, ?_, g2⟩
        rw [if_neg (by rw [hcond]; simp)]
        rw [hput]
        exact g1
      · cases hf
end Go.Dx
/- D: structs and slices that are written out: the operations. -/
namespace Go.Dx
open Go

section
variable {P : Program} {e : Env} {t : Fr} {a : Act} {h : DHeap} {w : World} {o : Oper} {D : DProg} {nx : Nx}

/-- the parts, evaluated -/
theorem parts_rel {place : Nat → Option (Nat × Nat)} (hg : Glob P e) (hf : FrR e t a.tmps) {F : Nat × Operand → Option (Nat × Nat × Opd)} (hF : ∀ q off n x, F q = some (off, n, x) → place q.1 = some (off, n) ∧ opdD P q.2 = some x) :
    ∀ {ps : List (Nat × Operand)} {ds : List (Nat × Nat × Opd)}, ps.mapM F = some ds →
      ds.length = ps.length ∧ ∀ (j : Nat) (off n : Nat) (d : DV), (ds.map fun p => (p.1, p.2.1, p.2.2.ev t))[j]? = some (off, n, d) → ∃ i v, (ps.map fun q => (q.1, a.eval q.2))[j]? = some (i, v) ∧ place i = some (off, n) ∧ val e d = some v
  | [], ds, h => by rw [mapM_nil_some h]; exact ⟨rfl, fun j off n d hj => by simp at hj⟩
  | q :: ps, ds, h => by
    obtain ⟨b, bs, rfl, h1, h2⟩ := mapM_cons_some h
    obtain ⟨ih1, ih2⟩ := parts_rel hg hf hF h2
    refine ⟨by simp [ih1], fun j off n d hj => ?_⟩
    cases j with
    | zero =>
      obtain ⟨o1, n1, x1⟩ := b
      simp only [List.map_cons, List.getElem?_cons_zero, Option.some.injEq, Prod.mk.injEq] at hj
      obtain ⟨rfl, rfl, rfl⟩ := hj
      obtain ⟨hp, hx⟩ := hF _ _ _ _ h1
      exact ⟨q.1, a.eval q.2, rfl, hp, opd_ok hg hf hx⟩
    | succ j => simpa using ih2 j off n d (by simpa using hj)
theorem ok_build {T : TypeId} {ps : Array (Nat × Operand)} {z : DV} {ds : List (Nat × Nat × Opd)} (hg : Glob P e) (hf : FrR e t a.tmps) (r : Rep e h w) (ho : o.op = .build T ps) (hz : zeroT P T = some z) (hps : partsD P T ps = some ds) (hn : opD D t h (.build z.cells ds) = some nx) : NxOk P e h w (execOp a.eval o) nx := by
  simp only [opD] at hn
  split at hn
  · next cs hfill =>
    cases hn
    unfold zeroT at hz
    cases hit : P.info? T with
    | none => simp [hit] at hz
    | some it =>
      simp only [hit, Option.bind_some] at hz
      cases hzv : it.zero with
      | none => simp [hzv] at hz
      | some zv =>
        simp only [hzv, Option.bind_some] at hz
        have hzval := valD_val e 4 zv z hz
        have hcells := cells_val hzval
        have hb : ∃ rs, P.built T (ps.map fun (i, x) => (i, a.eval x)).toList = some rs.toArray ∧ vals e cs = some rs := by
          unfold partsD at hps
          unfold Program.built
          have hmap : (ps.map fun (i, x) => (i, a.eval x)).toList = ps.toList.map fun q => (q.1, a.eval q.2) := by simp
          split at hps
          · next fs hu =>
            split at hps
            · cases hps
            · next places hpl =>
              obtain ⟨h1, h2⟩ := parts_rel (place := (places.toArray[·]?)) hg hf (fun q off n x hq => by
                split at hq
                · cases hq
                · next p hp =>
                  split at hq
                  · cases hq
                  · next x' hx' =>
                    simp only [Option.some.injEq, Prod.mk.injEq] at hq
                    obtain ⟨rfl, rfl, rfl⟩ := hq
                    exact ⟨by simpa using hp, hx'⟩) hps
              obtain ⟨rs, g1, g2⟩ := fill_ok (place := (places.toArray[·]?)) hcells hfill (by simp [h1]) h2
              refine ⟨rs, ?_, g2⟩
              simp only [hit, hu, hzv, hpl, hmap]
              simpa using g1
          · next n el hu =>
            split at hps
            · cases hps
            · next sz hsz =>
              obtain ⟨h1, h2⟩ := parts_rel (place := fun i => some (i * sz, sz)) hg hf (fun q off n x hq => by
                split at hq
                · cases hq
                · next x' hx' =>
                  simp only [Option.some.injEq, Prod.mk.injEq] at hq
                  obtain ⟨rfl, rfl, rfl⟩ := hq
                  exact ⟨rfl, hx'⟩) hps
              obtain ⟨rs, g1, g2⟩ := fill_ok (place := fun i => some (i * sz, sz)) hcells hfill (by simp [h1]) h2
              refine ⟨rs, ?_, g2⟩
              unfold sizeT at hsz
              cases hie : P.info? el with
              | none => simp [hie] at hsz
              | some ie =>
                simp only [hie, Option.map_some, Option.some.injEq] at hsz
                simp only [hit, hu, hzv, hie, hmap, hsz]
                simpa using g1
          · cases hps
        obtain ⟨rs, g1, g2⟩ := hb
        refine .pure r (rv := .agg rs.toArray) ?_ (by simp only [val, g2])
        simp only [execOp, ho, Sem.run_bind, run_build w T _ _ g1, Result.andThen_ok]
        rfl
  · cases hn
theorem ok_buildSlice {T el : TypeId} {n : Nat} {ps : Array (Nat × Operand)} {i : TypeInfo} {z : DV} {ds : List (Nat × Nat × Opd)} (hg : Glob P e) (hf : FrR e t a.tmps) (r : Rep e h w) (ho : o.op = .buildSlice T n ps) (hT : P.underlying T = some (.slice el)) (hi : P.info? el = some i) (hz : zeroT P el = some z) (hzs : z.cells.length = i.size) (hle : n * i.size ≤ 16777216)
    (hps : ps.toList.mapM (fun q => (match opdD P q.2 with | none => none | some x => some (q.1 * i.size, i.size, x))) = some ds) (hn : opD D t h (.buildSlice n (List.replicate n z.cells).flatten ds) = some nx) : NxOk P e h w (execOp a.eval o) nx := by
  obtain ⟨zv, hz1, hz2⟩ := run_zeroT hz e w
  simp only [opD] at hn
  split at hn
  · next cs hfill =>
    cases hn
    obtain ⟨h1, h2⟩ := parts_rel (place := fun j => some (j * i.size, i.size)) hg hf (fun q off n x hq => by
      split at hq
      · cases hq
      · next x' hx' =>
        simp only [Option.some.injEq, Prod.mk.injEq] at hq
        obtain ⟨rfl, rfl, rfl⟩ := hq
        exact ⟨rfl, hx'⟩) hps
    obtain ⟨rs, g1, g2⟩ := fill_ok (place := fun j => some (j * i.size, i.size)) (replicate_vals hz2 n) hfill (by simp [h1]) h2
    have hst := step_new_cells r g2 [] el 0 0 (by simp)
    rw [List.append_nil] at hst
    refine ⟨_, _, hst, .inl ⟨.slice (some ⟨w.heap.size, 0, none⟩) n n, ?_, by simp [val, Env.add]⟩⟩
    have hzl : zv.cells.size = i.size := by rw [← hzs]; have := vals_length (cells_val hz2); simpa using this
    have hmap : (ps.map fun (i, x) => (i, a.eval x)).toList = ps.toList.map fun q => (q.1, a.eval q.2) := by simp
    have hrow : (Array.range (n * i.size)).map ((if n * i.size = 0 then (#[] : Array Value) else zv.cells)[· % (if n * i.size = 0 then (#[] : Array Value) else zv.cells).size]!) = (List.replicate n zv.cells.toList).flatten.toArray := by
      by_cases h0 : n * i.size = 0
      · simp only [h0, if_true]
        rcases Nat.mul_eq_zero.1 h0 with hm0 | hs0
        · rw [hm0]; simp
        · have : zv.cells = #[] := Array.eq_empty_of_size_eq_zero (by rw [hzl, hs0])
          rw [this]
          simp
      · simp only [h0, if_false]
        rw [← hzl]
        exact range_mod _ _
    have hsz : (sizeOf el).run P w = .ok i.size w := by simp [sizeOf, typeInfo, hi]
    simp only [execOp, ho, Sem.run_bind]
    unfold Instr.buildSlice
    simp only [Sem.run_bind, run_underlying hT, Result.andThen_ok, hsz]
    rw [if_neg (by omega)]
    simp only [hmap]
    by_cases h0 : n * i.size = 0
    · simp only [h0, if_true] at hrow
      rw [if_pos h0]
      simp only [Sem.run_bind, Sem.run_pure, Result.andThen_ok, h0, hrow, g1, run_newRow]
    · simp only [h0, if_false] at hrow
      rw [if_neg h0]
      simp only [Sem.run_bind, Sem.run_pure, Result.andThen_ok, hz1, hrow, g1, run_newRow]
  · cases hn
end
end Go.Dx
