/- D: further operations on maps; iteration. -/
import Derived.Test.YtfdplefijefeiaaGreatDoorZg
namespace Go.Dx
open Go

section
variable {P : Program} {e : Env} {t : Fr} {a : Act} {h : DHeap} {w : World} {o : Oper} {D : DProg} {nx : Nx}

theorem ok_lenMap {c : Call} {x : Operand} {T kt el : TypeId} (hg : Glob P e) (hf : FrR e t a.tmps) (r : Rep e h w) (ho : o.op = .call c) (hc : c.callee = .builtin .len) (hxs : c.args.toList = [x]) (hT : c.argTypes[0]? = some T) (hu : P.underlying T = some (.map kt el))
    {x' : Opd} (hx : opdD P x = some x') (hn : opD D t h (.lenMap x') = some nx) : NxOk P e h w (execOp a.eval o) nx := by
  have vx := opd_ok hg hf hx
  simp only [opD] at hn
  split at hn
  · next hb =>
    cases hn
    rw [hb] at vx
    simp only [val, Option.some.injEq] at vx
    refine .pure r (rv := .int .i64 0) ?_ rfl
    simp [execOp, ho, resolve, hc, args1 hxs, invoke, builtin, Builtin.len_, hT, ← vx, Sem.run_bind, run_underlying hu, goInt]
  · next rr hb =>
    rw [hb] at vx
    obtain ⟨y, hy, hv⟩ := map_val vx
    split at hn
    · next es cl hgr =>
      cases hn
      obtain ⟨y', ms, hy', hms, hbk⟩ := map_obj r hgr
      rw [hy] at hy'
      cases hy'
      refine .pure r (rv := .int .i64 es.length) ?_ rfl
      simp [execOp, ho, resolve, hc, args1 hxs, invoke, builtin, Builtin.len_, hT, hv, Sem.run_bind, run_underlying hu, goInt, run_getMap hbk, ents_length hms]
    · cases hn
  · cases hn
theorem ok_delete {c : Call} {m k : Operand} {T kt el : TypeId} {ks : Bool} {kind : TypeDesc} (hg : Glob P e) (hf : FrR e t a.tmps) (r : Rep e h w) (ho : o.op = .call c) (hc : c.callee = .builtin .delete) (hxs : c.args.toList = [m, k]) (hat : c.argTypes[0]? = some T) (hT : P.underlying T = some (.map kt el)) (hu : P.underlying kt = some kind) (hk : keyKind ks kind)
    {m' k' : Opd} (hm : opdD P m = some m') (hkk : opdD P k = some k') (hn : opD D t h (.delete ks m' k') = some nx) : NxOk P e h w (execOp a.eval o) nx := by
  have vm := opd_ok hg hf hm
  have vk := opd_ok hg hf hkk
  simp only [opD] at hn
  split at hn
  · next hb =>
    cases hn
    rw [hb] at vm
    simp only [val, Option.some.injEq] at vm
    refine .pure r (rv := .tuple #[]) ?_ rfl
    simp [execOp, ho, resolve, hc, args2 hxs, invoke, builtin, Builtin.delete_, hat, ← vm, Sem.run_bind, run_underlying hT, run_checkKey hu hk]
  · next rr hb =>
    rw [hb] at vm
    obtain ⟨x, hx, hv⟩ := map_val vm
    split at hn
    · next es cl hgr =>
      obtain ⟨x', ms, hx', hms, hbk⟩ := map_obj r hgr
      rw [hx] at hx'
      cases hx'
      split at hn
      · next res hfd =>
        cases hn
        have hfo := find_ok hk vk 0 hms hfd
        cases res with
        | none =>
          have hfk := run_findKey (P := P) hu hfo w
          have hdel : delD ks (k'.ev t) es = es := by
            clear hfo hfk hms hbk hgr
            induction es with
            | nil => rfl
            | cons p es ih =>
              obtain ⟨k1, v1, n1⟩ := p
              unfold findD at hfd
              split at hfd
              · cases hfd
              · next heq => simp only [delD, heq, ih hfd]
              · cases hfd
          rw [hdel]
          refine ⟨e, _, put_map r hgr hx hms ms.toArray rfl, .inl ⟨.tuple #[], ?_, rfl⟩⟩
          simp [execOp, ho, resolve, hc, args2 hxs, invoke, builtin, Builtin.delete_, hat, hv, Sem.run_bind, run_underlying hT, run_checkKey hu hk, run_getMap hbk, hfk]
          rw [run_setMap hbk (fun _ _ _ => by simp)]
          simp
        | some p =>
          obtain ⟨v0, n0⟩ := p
          obtain ⟨i, rv, key, h1, h2, h3, h4, h5, h6⟩ := hfo
          rw [Nat.zero_add] at h1
          have hfk := run_findKey (P := P) hu h1 w
          refine ⟨e, _, put_map r hgr hx h6 (ms.toArray.eraseIdxIfInBounds i) (by
            have hlt := (List.getElem?_eq_some_iff.1 h3).1
            simp [Array.eraseIdxIfInBounds, hlt]), .inl ⟨.tuple #[], ?_, rfl⟩⟩
          simp [execOp, ho, resolve, hc, args2 hxs, invoke, builtin, Builtin.delete_, hat, hv, Sem.run_bind, run_underlying hT, run_checkKey hu hk, run_getMap hbk, hfk]
          rw [run_setMap hbk (fun _ _ _ => by simp)]
          simp
      · cases hn
    · cases hn
  · cases hn
theorem ok_clearMap {c : Call} {m : Operand} {T kt el : TypeId} (hg : Glob P e) (hf : FrR e t a.tmps) (r : Rep e h w) (ho : o.op = .call c) (hc : c.callee = .builtin .clear) (hxs : c.args.toList = [m]) (hat : c.argTypes[0]? = some T) (hT : P.underlying T = some (.map kt el))
    {m' : Opd} (hm : opdD P m = some m') (hn : opD D t h (.clearMap m') = some nx) : NxOk P e h w (execOp a.eval o) nx := by
  have vm := opd_ok hg hf hm
  simp only [opD] at hn
  split at hn
  · next hb =>
    cases hn
    rw [hb] at vm
    simp only [val, Option.some.injEq] at vm
    refine .pure r (rv := .tuple #[]) ?_ rfl
    simp [execOp, ho, resolve, hc, args1 hxs, invoke, builtin, Builtin.clear_, hat, ← vm, Sem.run_bind, run_underlying hT]
  · next rr hb =>
    rw [hb] at vm
    obtain ⟨x, hx, hv⟩ := map_val vm
    split at hn
    · next es cl hgr =>
      obtain ⟨x', ms, hx', hms, hbk⟩ := map_obj r hgr
      rw [hx] at hx'
      cases hx'
      cases hn
      refine ⟨e, _, put_map r hgr hx (show ents e [] = some [] from rfl) #[] rfl, .inl ⟨.tuple #[], ?_, rfl⟩⟩
      simp [execOp, ho, resolve, hc, args1 hxs, invoke, builtin, Builtin.clear_, hat, hv, Sem.run_bind, run_underlying hT, run_getMap hbk]
      rw [run_setMap hbk (fun _ _ _ => by simp)]
      simp
    · cases hn
  · cases hn
/-- a new object that is no row of cells -/
theorem new_obj (r : Rep e h w) {o' : DObj} {ob : Obj} (hobj : ∀ e' : Env, Env.le e e' → ∀ w' : World, w'.heap[w.heap.size]? = some ob → objAt e' w' ⟨w.heap.size, 0, 0, 0⟩ o') : Step e h w (e.add h.next ⟨w.heap.size, 0, 0, 0⟩) (h.new o') (w.alloc ob) :=
  Step.new r ⟨w.heap.size, 0, 0, 0⟩ rfl (by simp) rfl rfl rfl (fun B hB => alloc_old w _ hB) (hobj _ (Env.le_add (r.new _ (Nat.le_refl _)) _) _ (alloc_last w _))
theorem ok_rangeStr {T : TypeId} {x : Operand} (hg : Glob P e) (hf : FrR e t a.tmps) (r : Rep e h w) (ho : o.op = .range T x) (hT : P.underlying T = some .string) {x' : Opd} (hx : opdD P x = some x') (hn : opD D t h (.rangeStr x') = some nx) : NxOk P e h w (execOp a.eval o) nx := by
  have vx := opd_ok hg hf hx
  simp only [opD] at hn
  split at hn
  · next s hb =>
    cases hn
    rw [hb] at vx
    simp only [val, Option.some.injEq] at vx
    refine ⟨_, _, new_obj r (o' := .strIter s 0) (ob := .stringIter ⟨s.toArray⟩ 0) (fun e' _ w' hw => ⟨rfl, hw⟩), .inl ⟨.pointer (some ⟨w.heap.size, 0, none⟩), ?_, add_ptr ..⟩⟩
    simp [execOp, ho, Instr.range, ← vx, Sem.run_bind, run_underlying hT]
  · cases hn
theorem ok_rangeMap {T kt el : TypeId} {x : Operand} (hg : Glob P e) (hf : FrR e t a.tmps) (r : Rep e h w) (ho : o.op = .range T x) (hT : P.underlying T = some (.map kt el)) {x' : Opd} (hx : opdD P x = some x') (hn : opD D t h (.rangeMap x') = some nx) : NxOk P e h w (execOp a.eval o) nx := by
  have vx := opd_ok hg hf hx
  simp only [opD] at hn
  split at hn
  · next hb =>
    cases hn
    rw [hb] at vx
    simp only [val, Option.some.injEq] at vx
    refine ⟨_, _, new_obj r (o' := .mapIter none 0 [] 0) (ob := .mapIter none 0 #[] 0) (fun e' _ w' hw => ⟨rfl, none, rfl, hw⟩), .inl ⟨.pointer (some ⟨w.heap.size, 0, none⟩), ?_, add_ptr ..⟩⟩
    simp [execOp, ho, Instr.range, ← vx, Sem.run_bind, run_underlying hT]
  · next m hb =>
    rw [hb] at vx
    obtain ⟨y, hy, hv⟩ := map_val vx
    split at hn
    · next es cl hgr =>
      cases hn
      obtain ⟨y', ms, hy', hms, hbk⟩ := map_obj r hgr
      rw [hy] at hy'
      cases hy'
      refine ⟨_, _, new_obj r (o' := .mapIter (some m) cl [] cl) (ob := .mapIter (some y.blk) cl #[] cl) (fun e' hle w' hw => ⟨rfl, some y.blk, by simp [mref, hle _ _ hy], hw⟩), .inl ⟨.pointer (some ⟨w.heap.size, 0, none⟩), ?_, add_ptr ..⟩⟩
      simp [execOp, ho, Instr.range, hv, Sem.run_bind, run_underlying hT, run_getMap hbk]
    · cases hn
  · cases hn
end
end Go.Dx
