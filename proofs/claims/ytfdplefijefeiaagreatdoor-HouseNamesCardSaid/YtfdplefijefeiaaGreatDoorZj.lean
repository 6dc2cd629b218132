/- D: entries, assertions, parts of arrays, least and greatest. -/
import Derived.Test.YtfdplefijefeiaaGreatDoorZi
namespace Go.Dx
open Go

section
variable {P : Program} {e : Env} {t : Fr} {a : Act} {h : DHeap} {w : World} {o : Oper} {D : DProg} {nx : Nx}

theorem ok_entry {x : Operand} (hg : Glob P e) (hf : FrR e t a.tmps) (r : Rep e h w) (ho : o.op = .entry x) {x' : Opd} (hx : opdD P x = some x') (hn : opD D t h (.entry x') = some nx) : NxOk P e h w (execOp a.eval o) nx := by
  have vx := opd_ok hg hf hx
  simp only [opD] at hn
  split at hn
  · next rr hb =>
    rw [hb] at vx
    split at hn
    · next m since seen st hgr =>
      obtain ⟨y, hy, hob, hv⟩ := base_ptr r hgr vx
      obtain ⟨hbase, mr, hmr, hbk⟩ := hob
      rw [hbase] at hv
      split at hn
      · next es cl s hgm hlast =>
        obtain ⟨z, ms, hz, hms, hbm⟩ := map_obj r hgm
        simp only [mref, hz, Option.some.injEq] at hmr
        subst hmr
        split at hn
        · next hcl =>
          split at hn
          · next k v n hfind =>
            cases hn
            obtain ⟨k', v', h1, h2, h3⟩ := ents_find (fun n => n == s) hms hfind
            refine .pure r (rv := .tuple #[k', v']) ?_ (by simp [val, vals, h2, h3])
            have hback : seen.toArray.back? = some s := by simpa using hlast
            have hfa : ms.toArray.find? (fun x => x.born == s) = some ⟨k', v', n⟩ := by simpa using h1
            simp [execOp, ho, hv, Instr.entry, Sem.run_bind, run_getObj hbk (fun _ _ _ => by simp), run_getMap hbm, hback, hcl, hfa]
          · cases hn
        · cases hn
      · cases hn
    · cases hn
  · cases hn
theorem ok_assertC {x : Operand} {X T : TypeId} {cok : Bool} {d : TypeDesc} {z : DV} (hg : Glob P e) (hf : FrR e t a.tmps) (r : Rep e h w) (ho : o.op = .typeAssert x X T cok) (hu : P.underlying T = some d) (hd : ∀ ms, d ≠ .interface ms) (hz : zeroT P T = some z) {x' : Opd} (hx : opdD P x = some x') (hn : opD D t h (.assertC x' T cok z) = some nx) : NxOk P e h w (execOp a.eval o) nx := by
  have vx := opd_ok hg hf hx
  obtain ⟨zv, hz1, hz2⟩ := run_zeroT hz e w
  simp only [opD] at hn
  split at hn
  · next hb =>
    rw [hb] at vx
    simp only [val, Option.some.injEq] at vx
    split at hn
    · next hc =>
      cases hn
      subst hc
      refine .pure r (rv := .tuple #[zv, .bool false]) ?_ (by simp [val, vals, hz2])
      cases d <;> first | exact absurd rfl (hd _) | simp [execOp, ho, ← vx, Instr.typeAssert, Sem.run_bind, run_underlying hu, hz1]
    · cases hn
  · next ty v hb =>
    rw [hb] at vx
    cases hvv : val e v with
    | none => simp [val, hvv] at vx
    | some rv =>
      simp only [val, hvv, Option.some.injEq] at vx
      split at hn
      · next hty =>
        cases hn
        subst hty
        cases cok with
        | true =>
          refine .pure r (rv := .tuple #[rv, .bool true]) ?_ (by simp [val, vals, hvv])
          cases d <;> first | exact absurd rfl (hd _) | simp [execOp, ho, ← vx, Instr.typeAssert, Sem.run_bind, run_underlying hu]
        | false =>
          refine .pure r (rv := rv) ?_ (by simpa using hvv)
          cases d <;> first | exact absurd rfl (hd _) | simp [execOp, ho, ← vx, Instr.typeAssert, Sem.run_bind, run_underlying hu]
      · next hty =>
        split at hn
        · next hc =>
          cases hn
          subst hc
          refine .pure r (rv := .tuple #[zv, .bool false]) ?_ (by simp [val, vals, hz2])
          cases d <;> first | exact absurd rfl (hd _) | simp [execOp, ho, ← vx, Instr.typeAssert, Sem.run_bind, run_underlying hu, hty, hz1]
        · cases hn
  · cases hn
theorem ok_strish {s : TypeId} {x : Operand} {e1 : TypeId} (hg : Glob P e) (hf : FrR e t a.tmps) (r : Rep e h w) (ho : o.op = .convert s s x) (hs : P.underlying s = some (.slice e1)) (he : P.underlying e1 = some (.int .u8)) {x' : Opd} (hx : opdD P x = some x') (hn : opD D t h (.strish x') = some nx) : NxOk P e h w (execOp a.eval o) nx := by
  have vx := opd_ok hg hf hx
  simp only [opD] at hn
  split at hn
  · cases hn
  · next b o' z len cap tg hb =>
    rw [hb] at vx
    have vx' := vx
    obtain ⟨y, hy, hv⟩ := slice_val vx
    split at hn
    · next cs k hgb =>
      cases hn
      obtain ⟨y', hy', hob⟩ := r.obj b _ hgb
      rw [hy] at hy'
      cases hy'
      obtain ⟨rs, h1, h2, h3, h4, h5⟩ := hob
      obtain ⟨c, T, lo, hi, hb2, hfz⟩ := h5 rfl
      have hsh : w.shape? y.blk = some (T, c.size) := by unfold World.shape?; rw [hb2]
      have hn1 : (w.freeze ⟨y.blk, c.size, none⟩ 1).heap[y.blk]? = some (.cells c T (if lo == hi then (c.size, c.size + 1) else (min lo c.size, max hi (c.size + 1)))) := by
        unfold World.freeze
        rw [if_neg (by decide)]
        show (w.heap.modify y.blk _)[y.blk]? = _
        rw [Array.getElem?_modify, if_pos rfl, hb2]
        rfl
      have hlo : ∃ lo' hi', (w.freeze ⟨y.blk, c.size, none⟩ 1).heap[y.blk]? = some (.cells c T (lo', hi')) ∧ c.size ≤ lo' := by
        by_cases he : lo = hi
        · rw [if_pos (by simpa using he)] at hn1
          exact ⟨_, _, hn1, Nat.le_refl _⟩
        · rw [if_neg (by simpa using he)] at hn1
          refine ⟨_, _, hn1, ?_⟩
          rcases hfz with hh | hh
          · exact absurd hh he
          · omega
      obtain ⟨lo', hi', hn2, hle⟩ := hlo
      have hcell : ∀ j, (w.freeze ⟨y.blk, c.size, none⟩ 1).cell? ⟨y.blk, j, none⟩ = w.cell? ⟨y.blk, j, none⟩ := fun j => by
        unfold World.cell?
        rw [hn2, hb2]
      have hsz1 : (w.freeze ⟨y.blk, c.size, none⟩ 1).heap.size = w.heap.size := by
        unfold World.freeze
        rw [if_neg (by decide)]
        simp
      refine ⟨e, w.freeze ⟨y.blk, c.size, none⟩ 1, ?_, .inl ⟨a.eval x, ?_, vx'⟩⟩
      · have hst : Step e h w e (h.put b (.cells cs false k)) (w.freeze ⟨y.blk, c.size, none⟩ 1) := by
          refine Step.put r hgb rfl rfl hy hsz1 rfl rfl rfl (fun B hB => ?_) ⟨rs, h1, fun j v hj => (hcell _).trans (h2 j v hj), fun _ j hj => ⟨by rw [hcell]; exact (h3 rfl j hj).1, ?_⟩, h4, fun _ => ⟨_, _, _, _, hn2, .inr hle⟩⟩
          · unfold World.freeze
            rw [if_neg (by decide)]
            show (w.heap.modify y.blk _)[B]? = _
            rw [Array.getElem?_modify, if_neg (fun e => hB e.symm)]
          · have hs := (h3 rfl j hj).1
            unfold World.cell? at hs
            rw [hb2] at hs
            have hlt : y.base + j < c.size := by
              have := Option.isSome_iff_exists.1 hs
              obtain ⟨u, hu⟩ := this
              exact (Array.getElem?_eq_some_iff.1 (by simpa using hu)).1
            unfold World.frozen?
            rw [hn2]
            have : ¬ lo' ≤ y.base + j := by omega
            simp [this]
        exact hst
      · simp [execOp, ho, hv, convert, Sem.run_bind, run_underlying hs, run_underlying he, markStringish, shape, Sem.run, hsh, freeze]
    · cases hn
  · cases hn
theorem ok_indexArr {T el : TypeId} {x i : Operand} {k n : Nat} {dd : TypeDesc} (hg : Glob P e) (hf : FrR e t a.tmps) (r : Rep e h w) (ho : o.op = .index T x i) (hT : P.underlying T = some (.array k el)) (hs : sizeT P el = some n) (hd : P.underlying el = some dd)
    {x' i' : Opd} (hx : opdD P x = some x') (hi : opdD P i = some i') (hn : opD D t h (.indexArr k n (isAggT P el) x' i') = some nx) : NxOk P e h w (execOp a.eval o) nx := by
  have vx := opd_ok hg hf hx
  have vi := opd_ok hg hf hi
  simp only [opD] at hn
  split at hn
  · next cs j hb hj =>
    rw [hb] at vx
    obtain ⟨kk, hki⟩ := natOf_val hj vi
    split at hn
    · next hlt =>
      split at hn
      · next v hv =>
        cases hn
        simp only [val] at vx
        cases hl : vals e cs with
        | none => simp [hl] at vx
        | some l =>
          simp only [hl, Option.some.injEq] at vx
          have hpart : ∃ rv, (part el l.toArray (j * n)).run P w = .ok rv w ∧ val e v = some rv := by
            unfold partD at hv
            unfold part
            simp only [Sem.run_bind, run_isAggT hd, Result.andThen_ok]
            cases ha : isAggT P el with
            | true =>
              rw [ha] at hv
              simp only [if_true] at hv
              split at hv
              · cases hv
                refine ⟨.agg ((l.drop (j * n)).take n).toArray, ?_, by simp only [val, vals_sub _ _ hl]⟩
                simp only [if_true, Sem.run_bind, run_sizeT hs, Result.andThen_ok]
                simp [List.extract_eq_take_drop]
              · cases hv
            | false =>
              rw [ha] at hv
              simp only [Bool.false_eq_true, if_false] at hv
              obtain ⟨rv, h1, h2⟩ := vals_get hl hv
              exact ⟨rv, by simp [h1], h2⟩
          obtain ⟨rv, h1, h2⟩ := hpart
          refine .pure r ?_ h2
          have hc : (0 : Int) ≤ (j : Int) ∧ (j : Int) < (k : Int) := by omega
          simp [execOp, ho, ← vx, hki, Instr.index, Sem.run_bind, asInt_nat, run_underlying hT, hc, run_sizeT hs, h1]
      · cases hn
    · cases hn
  · cases hn
theorem minmax_ok {b : Bool} : ∀ {xs : List DV} {x v : DV} {vx : Value} {vs : List Value}, val e x = some vx → vals e xs = some vs → minmaxD b x xs = some v → ∃ rv, (vs.foldlM (if b then Builtin.max2 else Builtin.min2) vx).run P w = .ok rv w ∧ val e v = some rv
  | [], x, v, vx, vs, hx, hxs, hm => by
    simp [vals] at hxs
    simp [minmaxD] at hm
    subst hxs; subst hm
    exact ⟨vx, rfl, hx⟩
  | y :: ys, x, v, vx, vs, hx, hxs, hm => by
    obtain ⟨k, n, hk⟩ : ∃ k n, x = .int k n := by
      cases x <;> first | exact ⟨_, _, rfl⟩ | simp [minmaxD] at hm
    subst hk
    obtain ⟨vy, vys, rfl, hy, hys⟩ := vals_cons hxs
    simp only [val, Option.some.injEq] at hx
    subst hx
    cases y with
    | int k' m =>
      simp only [val, Option.some.injEq] at hy
      subst hy
      simp only [minmaxD] at hm
      split at hm
      · next hkk =>
        subst hkk
        cases b with
        | true =>
          obtain ⟨rv, h1, h2⟩ := minmax_ok (b := true) (x := .int k (if n < m then m else n)) rfl hys (by simpa using hm)
          refine ⟨rv, ?_, h2⟩
          simp only [if_true] at h1 ⊢
          simp only [List.foldlM_cons, Sem.run_bind]
          exact h1
        | false =>
          obtain ⟨rv, h1, h2⟩ := minmax_ok (b := false) (x := .int k (if m < n then m else n)) rfl hys (by simpa using hm)
          refine ⟨rv, ?_, h2⟩
          simp only [Bool.false_eq_true, if_false] at h1 ⊢
          simp only [List.foldlM_cons, Sem.run_bind]
          exact h1
      · cases hm
    | _ => simp [minmaxD] at hm
theorem ok_minmax {b : Bool} {c : Call} {xs : List Opd} (hg : Glob P e) (hf : FrR e t a.tmps) (r : Rep e h w) (ho : o.op = .call c) (hc : c.callee = .builtin (if b then .max else .min)) (hx : c.args.toList.mapM (opdD P) = some xs) (hn : opD D t h (.minmax b xs) = some nx) : NxOk P e h w (execOp a.eval o) nx := by
  have vx := opds_ok hg hf hx
  simp only [opD] at hn
  split at hn
  · next x r' hxs =>
    split at hn
    · next v hv =>
      cases hn
      rw [hxs] at vx
      obtain ⟨y, ys, hys, h1, h2⟩ := vals_cons vx
      obtain ⟨rv, h3, h4⟩ := minmax_ok (P := P) (w := w) h1 h2 hv
      have hargs : (c.args.map a.eval).toList = y :: ys := by rw [Array.toList_map]; exact hys
      refine .pure r (rv := rv) ?_ h4
      cases b with
      | true =>
        have hmx : (Builtin.max_ c.argTypes o.type (c.args.map a.eval)).run P w = .ok rv w := by
          unfold Builtin.max_
          rw [hargs]
          exact h3
        simp [execOp, ho, resolve, hc, invoke, builtin, hmx]
      | false =>
        have hmx : (Builtin.min_ c.argTypes o.type (c.args.map a.eval)).run P w = .ok rv w := by
          unfold Builtin.min_
          rw [hargs]
          exact h3
        simp [execOp, ho, resolve, hc, invoke, builtin, hmx]
    · cases hn
  · cases hn
end
end Go.Dx
