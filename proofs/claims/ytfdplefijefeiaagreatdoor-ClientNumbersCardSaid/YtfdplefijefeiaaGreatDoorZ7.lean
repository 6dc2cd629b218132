/- The evaluator, part 7. -/
import Derived.Test.YtfdplefijefeiaaGreatDoorZ6
import Derived.Laws.StructEq
import Derived.ChangeKeysEq
/- D: steps of iterations. -/
namespace Go.Dx
open Go

theorem ents_filter {e : Env} (p : Nat → Bool) : ∀ {es : List (DV × DV × Nat)} {ms : List MapEntry}, ents e es = some ms → ents e (es.filter fun x => p x.2.2) = some (ms.filter fun x => p x.born)
  | [], ms, h => by simp [ents] at h; subst h; rfl
  | (k, v, n) :: es, ms, h => by
    obtain ⟨k', v', es', rfl, hk, hv, hs⟩ := ents_cons h
    have ih := ents_filter p hs
    simp only [List.filter_cons]
    cases hp : p n with
    | true => simp [ents, hk, hv, ih]
    | false => simpa using ih
theorem ents_all {e : Env} (p : Nat → Bool) : ∀ {es : List (DV × DV × Nat)} {ms : List MapEntry}, ents e es = some ms → (es.all fun x => p x.2.2) = ms.all fun x => p x.born
  | [], ms, h => by simp [ents] at h; subst h; rfl
  | (k, v, n) :: es, ms, h => by
    obtain ⟨k', v', es', rfl, hk, hv, hs⟩ := ents_cons h
    simp [ents_all p hs]
theorem ents_find {e : Env} (p : Nat → Bool) : ∀ {es : List (DV × DV × Nat)} {ms : List MapEntry} {k v : DV} {n : Nat}, ents e es = some ms → (es.find? fun x => p x.2.2) = some (k, v, n) → ∃ k' v', ms.find? (fun x => p x.born) = some ⟨k', v', n⟩ ∧ val e k = some k' ∧ val e v = some v'
  | [], ms, k, v, n, h, hf => by simp at hf
  | (k1, v1, n1) :: es, ms, k, v, n, h, hf => by
    obtain ⟨k', v', es', rfl, hk, hv, hs⟩ := ents_cons h
    simp only [List.find?_cons] at hf ⊢
    cases hp : p n1 with
    | true =>
      rw [hp] at hf
      simp only [Option.some.injEq, Prod.mk.injEq] at hf
      obtain ⟨rfl, rfl, rfl⟩ := hf
      exact ⟨k', v', by simp [hp], hk, hv⟩
    | false =>
      rw [hp] at hf
      simpa [hp] using ents_find p hs hf

section
variable {P : Program} {e : Env} {t : Fr} {a : Act} {h : DHeap} {w : World} {o : Oper} {D : DProg} {nx : Nx}

theorem run_getObj {B : Nat} {ob : Obj} (hb : w.heap[B]? = some ob) (hn : ∀ a b c, ob ≠ .cells a b c) : (getObj B).run P w = .ok ob w := by
  simp only [getObj, Sem.run, hb]
theorem base_ptr (r : Rep e h w) {b : Nat} {ob : DObj} {v : Value} (hg : h.get b = some ob) (hv : val e (.ptr b 0) = some v) : ∃ x, e b = some x ∧ objAt e w x ob ∧ v = .pointer (some ⟨x.blk, x.base, none⟩) := by
  obtain ⟨x, hx, ho⟩ := r.obj b ob hg
  obtain ⟨y, hy, hv⟩ := ptr_val hv
  rw [hx] at hy
  cases hy
  exact ⟨x, hx, ho, hv⟩
theorem decode_ok {s : List UInt8} {p c wd : Nat} (h : decodeD (s.drop p) = some (c, wd)) : Utf8.decode ⟨s.toArray⟩ p = (c, wd) := by
  unfold decodeD at h
  split at h
  · next b l heq =>
    split at h
    · next hlt =>
      simp only [Option.some.injEq, Prod.mk.injEq] at h
      obtain ⟨rfl, rfl⟩ := h
      have hp : p < s.length := by
        refine Nat.lt_of_not_le fun hle => ?_
        rw [List.drop_eq_nil_of_le hle] at heq
        cases heq
      have hb : s[p] = b := by
        rw [List.drop_eq_getElem_cons hp] at heq
        exact (List.cons.inj heq).1
      have hg : ((⟨s.toArray⟩ : ByteArray).get! (p + 0)) = b := by
        rw [Nat.add_zero, ← hb]
        show (s.toArray[p]!) = _
        simp [hp]
      unfold Utf8.decode
      simp only [hg]
      rw [if_pos hlt]
    · cases h
  · cases h
theorem ok_nextStr {x : Operand} (hg : Glob P e) (hf : FrR e t a.tmps) (r : Rep e h w) (ho : o.op = .next x true) {x' : Opd} (hx : opdD P x = some x') (hn : opD D t h (.nextStr x') = some nx) : NxOk P e h w (execOp a.eval o) nx := by
  have vx := opd_ok hg hf hx
  simp only [opD] at hn
  split at hn
  · next rr hb =>
    rw [hb] at vx
    split at hn
    · next s p hgr =>
      obtain ⟨y, hy, hob, hv⟩ := base_ptr r hgr vx
      obtain ⟨hbase, hbk⟩ := hob
      rw [hbase] at hv
      split at hn
      · next hlt =>
        split at hn
        · next c wd hdec =>
          cases hn
          have hd := decode_ok hdec
          refine ⟨e, _, setObj_step r hgr rfl rfl hy (ob' := .stringIter ⟨s.toArray⟩ (p + wd)) ⟨hbase, setObj_at (r.lt rr y hy) _⟩, .inl ⟨.tuple #[.bool true, .int .i64 p, .int .i32 c], ?_, rfl⟩⟩
          simp only [execOp, ho, hv, Instr.next, Sem.run_bind, run_getObj hbk (fun _ _ _ => by simp), Result.andThen_ok]
          rw [if_pos (by rw [size_list]; exact hlt)]
          simp only [hd, Sem.run_bind]
          rw [run_setMap hbk (fun _ _ _ => by simp)]
          rfl
        · cases hn
      · next hlt =>
        cases hn
        refine .pure r (rv := .tuple #[.bool false]) ?_ rfl
        simp only [execOp, ho, hv, Instr.next, Sem.run_bind, run_getObj hbk (fun _ _ _ => by simp), Result.andThen_ok]
        rw [if_neg (by rw [size_list]; exact hlt)]
        rfl
    · cases hn
  · cases hn
theorem contains_list (l : List Nat) (n : Nat) : l.toArray.contains n = l.contains n := by simp
theorem ok_nextMap {x : Operand} (hg : Glob P e) (hf : FrR e t a.tmps) (r : Rep e h w) (ho : o.op = .next x false) {x' : Opd} (hx : opdD P x = some x') (hn : opD D t h (.nextMap x') = some nx) : NxOk P e h w (execOp a.eval o) nx := by
  have vx := opd_ok hg hf hx
  simp only [opD] at hn
  split at hn
  · next rr hb =>
    rw [hb] at vx
    split at hn
    · next since seen st hgr =>
      cases hn
      obtain ⟨y, hy, hob, hv⟩ := base_ptr r hgr vx
      obtain ⟨hbase, mr, hmr, hbk⟩ := hob
      rw [hbase] at hv
      simp only [mref, Option.some.injEq] at hmr
      subst hmr
      refine .pure r (rv := .tuple #[.bool false]) ?_ rfl
      simp only [execOp, ho, hv, Instr.next, Sem.run_bind, run_getObj hbk (fun _ _ _ => by simp), Result.andThen_ok]
      rfl
    · next m since seen last hgr =>
      obtain ⟨y, hy, hob, hv⟩ := base_ptr r hgr vx
      obtain ⟨hbase, mr, hmr, hbk⟩ := hob
      rw [hbase] at hv
      split at hn
      · next es cl hgm =>
        obtain ⟨z, ms, hz, hms, hbm⟩ := map_obj r hgm
        simp only [mref, hz, Option.some.injEq] at hmr
        subst hmr
        split at hn
        · cases hn
        next hguard =>
        have hleft := ents_filter (fun n => !seen.contains n) hms
        have hgd : ¬ ((!seen.toArray.isEmpty && !ms.toArray.isEmpty && ms.toArray.all (·.born ≥ last)) = true) := by
          intro hc
          apply hguard
          have h1 : es.isEmpty = ms.isEmpty := by
            cases es with
            | nil => simp only [ents, Option.some.injEq] at hms; rw [← hms]; rfl
            | cons p es => obtain ⟨k, v, n⟩ := p; obtain ⟨_, _, _, rfl, _⟩ := ents_cons hms; rfl
          have h2 := ents_all (fun n => decide (last ≤ n)) hms
          have e1 : ms.toArray.all (fun x => decide (x.born ≥ last)) = ms.all (fun x => decide (last ≤ x.born)) := by simp
          rw [e1, List.isEmpty_toArray, List.isEmpty_toArray] at hc
          rw [h1, h2]
          exact hc
        have hfil : ms.toArray.filter (fun e => !seen.toArray.contains e.born) = (ms.filter fun e => !seen.contains e.born).toArray := by simp
        split at hn
        · next hnil =>
          cases hn
          rw [hnil] at hleft
          simp only [ents, Option.some.injEq] at hleft
          refine .pure r (rv := .tuple #[.bool false]) ?_ rfl
          simp only [execOp, ho, hv, Instr.next, Sem.run_bind, run_getObj hbk (fun _ _ _ => by simp), run_getMap hbm, Result.andThen_ok]
          rw [if_neg hgd]
          simp only [hfil, ← hleft]
          simp [choose, Sem.run, Question.forced]
        · next k v n hone =>
          split at hn
          · next hsince =>
            cases hn
            rw [hone] at hleft
            obtain ⟨k', v', ms', hmf, hk', hv', hnil⟩ := ents_cons (hleft.symm ▸ rfl : ents e [(k, v, n)] = some (ms.filter fun e => !seen.contains e.born))
            simp only [ents, Option.some.injEq] at hnil
            subst hnil
            refine ⟨e, _, setObj_step r hgr rfl rfl hy (ob' := .mapIter (some z.blk) since (seen ++ [n]).toArray cl) ⟨hbase, some z.blk, by simp [mref, hz], setObj_at (r.lt rr y hy) _⟩, .inl ⟨.tuple #[.bool true, k', v'], ?_, by simp [val, vals, hk', hv']⟩⟩
            simp only [execOp, ho, hv, Instr.next, Sem.run_bind, run_getObj hbk (fun _ _ _ => by simp), run_getMap hbm, Result.andThen_ok]
            rw [if_neg hgd]
            simp only [hfil, hmf]
            have h1 : ¬ since ≤ n := by omega
            simp [hsince, h1, choose, Sem.run, Question.forced]
            rw [run_setMap hbk (fun _ _ _ => by simp)]
            rfl
          · cases hn
        · cases hn
      · cases hn
    · cases hn
  · cases hn
end
end Go.Dx
/- D: entries, assertions, parts of arrays, least and greatest. -/
namespace Go.Dx
open Go

section
variable {P : Program} {e : Env} {t : Fr} {a : Act} {h : DHeap} {w : World} {o : Oper} {D : DProg} {nx : Nx}

theorem ok_entry {x : Operand} (hg : Glob P e) (hf : FrR e t a.tmps) (r : Rep e h w) (ho : o.op = .entry x) {x' : Opd} (hx : opdD P x = some x') (hn : opD D t h (.entry x') = some nx) : NxOk P e h w (execOp a.eval o) nx := by
  have vx := opd_ok hg hf hx
  simp only [opD] at hn
  split at hn
  · next rr hb =>
    rw [hb] at vx
    split at hn
    · next m since seen st hgr =>
      obtain ⟨y, hy, hob, hv⟩ := base_ptr r hgr vx
      obtain ⟨hbase, mr, hmr, hbk⟩ := hob
      rw [hbase] at hv
      split at hn
      · next es cl s hgm hlast =>
        obtain ⟨z, ms, hz, hms, hbm⟩ := map_obj r hgm
        simp only [mref, hz, Option.some.injEq] at hmr
        subst hmr
        split at hn
        · next hcl =>
          split at hn
          · next k v n hfind =>
            cases hn
            obtain ⟨k', v', h1, h2, h3⟩ := ents_find (fun n => n == s) hms hfind
            refine .pure r (rv := .tuple #[k', v']) ?_ (by simp [val, vals, h2, h3])
            have hback : seen.toArray.back? = some s := by simpa using hlast
            have hfa : ms.toArray.find? (fun x => x.born == s) = some ⟨k', v', n⟩ := by simpa using h1
            simp [execOp, ho, hv, Instr.entry, Sem.run_bind, run_getObj hbk (fun _ _ _ => by simp), run_getMap hbm, hback, hcl, hfa]
          · cases hn
        · cases hn
      · cases hn
    · cases hn
  · cases hn
theorem ok_assertC {x : Operand} {X T : TypeId} {cok : Bool} {d : TypeDesc} {z : DV} (hg : Glob P e) (hf : FrR e t a.tmps) (r : Rep e h w) (ho : o.op = .typeAssert x X T cok) (hu : P.underlying T = some d) (hd : ∀ ms, d ≠ .interface ms) (hz : zeroT P T = some z) {x' : Opd} (hx : opdD P x = some x') (hn : opD D t h (.assertC x' T cok z) = some nx) : NxOk P e h w (execOp a.eval o) nx := by
  have vx := opd_ok hg hf hx
  obtain ⟨zv, hz1, hz2⟩ := run_zeroT hz e w
  simp only [opD] at hn
  split at hn
  · next hb =>
    rw [hb] at vx
    simp only [val, Option.some.injEq] at vx
    split at hn
    · next hc =>
      cases hn
      subst hc
      refine .pure r (rv := .tuple #[zv, .bool false]) ?_ (by simp [val, vals, hz2])
      cases d <;> first | exact absurd rfl (hd _) | simp [execOp, ho, ← vx, Instr.typeAssert, Sem.run_bind, run_underlying hu, hz1]
    · cases hn
  · next ty v hb =>
    rw [hb] at vx
    cases hvv : val e v with
    | none => simp [val, hvv] at vx
    | some rv =>
      simp only [val, hvv, Option.some.injEq] at vx
      split at hn
      · next hty =>
        cases hn
        subst hty
        cases cok with
        | true =>
          refine .pure r (rv := .tuple #[rv, .bool true]) ?_ (by simp [val, vals, hvv])
          cases d <;> first | exact absurd rfl (hd _) | simp [execOp, ho, ← vx, Instr.typeAssert, Sem.run_bind, run_underlying hu]
        | false =>
          refine .pure r (rv := rv) ?_ (by simpa using hvv)
          cases d <;> first | exact absurd rfl (hd _) | simp [execOp, ho, ← vx, Instr.typeAssert, Sem.run_bind, run_underlying hu]
      · next hty =>
        split at hn
        · next hc =>
          cases hn
          subst hc
          refine .pure r (rv := .tuple #[zv, .bool false]) ?_ (by simp [val, vals, hz2])
          cases d <;> first | exact absurd rfl (hd _) | simp [execOp, ho, ← vx, Instr.typeAssert, Sem.run_bind, run_underlying hu, hty, hz1]
        · cases hn
  · cases hn
theorem ok_strish {s : TypeId} {x : Operand} {e1 : TypeId} (hg : Glob P e) (hf : FrR e t a.tmps) (r : Rep e h w) (ho : o.op = .convert s s x) (hs : P.underlying s = some (.slice e1)) (he : P.underlying e1 = some (.int .u8)) {x' : Opd} (hx : opdD P x = some x') (hn : opD D t h (.strish x') = some nx) : NxOk P e h w (execOp a.eval o) nx := by
  have vx := opd_ok hg hf hx
  simp only [opD] at hn
  split at hn
  · cases hn
  · next b o' z len cap tg hb =>
    rw [hb] at vx
    have vx' := vx
    obtain ⟨y, hy, hv⟩ := slice_val vx
    split at hn
    · next cs k hgb =>
      cases hn
      obtain ⟨y', hy', hob⟩ := r.obj b _ hgb
      rw [hy] at hy'
      cases hy'
      obtain ⟨rs, h1, h2, h3, h4, h5⟩ := hob
      obtain ⟨c, T, lo, hi, hb2, hfz⟩ := h5 rfl
      have hsh : w.shape? y.blk = some (T, c.size) := by unfold World.shape?; rw [hb2]
      have hn1 : (w.freeze ⟨y.blk, c.size, none⟩ 1).heap[y.blk]? = some (.cells c T (if lo == hi then (c.size, c.size + 1) else (min lo c.size, max hi (c.size + 1)))) := by
        unfold World.freeze
        rw [if_neg (by decide)]
        show (w.heap.modify y.blk _)[y.blk]? = _
        rw [Array.getElem?_modify, if_pos rfl, hb2]
        rfl
      have hlo : ∃ lo' hi', (w.freeze ⟨y.blk, c.size, none⟩ 1).heap[y.blk]? = some (.cells c T (lo', hi')) ∧ c.size ≤ lo' := by
        by_cases he : lo = hi
        · rw [if_pos (by simpa using he)] at hn1
          exact ⟨_, _, hn1, Nat.le_refl _⟩
        · rw [if_neg (by simpa using he)] at hn1
          refine ⟨_, _, hn1, ?_⟩
          rcases hfz with hh | hh
          · exact absurd hh he
          · omega
      obtain ⟨lo', hi', hn2, hle⟩ := hlo
      have hcell : ∀ j, (w.freeze ⟨y.blk, c.size, none⟩ 1).cell? ⟨y.blk, j, none⟩ = w.cell? ⟨y.blk, j, none⟩ := fun j => by
        unfold World.cell?
        rw [hn2, hb2]
      have hsz1 : (w.freeze ⟨y.blk, c.size, none⟩ 1).heap.size = w.heap.size := by
        unfold World.freeze
        rw [if_neg (by decide)]
        simp
      refine ⟨e, w.freeze ⟨y.blk, c.size, none⟩ 1, ?_, .inl ⟨a.eval x, ?_, vx'⟩⟩
      · have hst : Step e h w e (h.put b (.cells cs false k)) (w.freeze ⟨y.blk, c.size, none⟩ 1) := by
          refine Step.put r hgb rfl rfl hy hsz1 rfl rfl rfl (fun B hB => ?_) ⟨rs, h1, fun j v hj => (hcell _).trans (h2 j v hj), fun _ j hj => ⟨by rw [hcell]; exact (h3 rfl j hj).1, ?_⟩, h4, fun _ => ⟨_, _, _, _, hn2, .inr hle⟩⟩
          · unfold World.freeze
            rw [if_neg (by decide)]
            show (w.heap.modify y.blk _)[B]? = _
            rw [Array.getElem?_modify, if_neg (fun e => hB e.symm)]
          · have hs := (h3 rfl j hj).1
            unfold World.cell? at hs
            rw [hb2] at hs
            have hlt : y.base + j < c.size := by
              have := Option.isSome_iff_exists.1 hs
              obtain ⟨u, hu⟩ := this
              exact (Array.getElem?_eq_some_iff.1 (by simpa using hu)).1
            unfold World.frozen?
            rw [hn2]
            have : ¬ lo' ≤ y.base + j := by omega
            simp [this]
        exact hst
      · simp [execOp, ho, hv, convert, Sem.run_bind, run_underlying hs, run_underlying he, markStringish, shape, Sem.run, hsh, freeze]
    · cases hn
  · cases hn
theorem ok_indexArr {T el : TypeId} {x i : Operand} {k n : Nat} {dd : TypeDesc} (hg : Glob P e) (hf : FrR e t a.tmps) (r : Rep e h w) (ho : o.op = .index T x i) (hT : P.underlying T = some (.array k el)) (hs : sizeT P el = some n) (hd : P.underlying el = some dd)
    {x' i' : Opd} (hx : opdD P x = some x') (hi : opdD P i = some i') (hn : opD D t h (.indexArr k n (isAggT P el) x' i') = some nx) : NxOk P e h w (execOp a.eval o) nx := by
  have vx := opd_ok hg hf hx
  have vi := opd_ok hg hf hi
  simp only [opD] at hn
  split at hn
  · next cs j hb hj =>
    rw [hb] at vx
    obtain ⟨kk, hki⟩ := natOf_val hj vi
    split at hn
    · next hlt =>
      split at hn
      · next v hv =>
        cases hn
        simp only [val] at vx
        cases hl : vals e cs with
        | none => simp [hl] at vx
        | some l =>
          simp only [hl, Option.some.injEq] at vx
          have hpart : ∃ rv, (part el l.toArray (j * n)).run P w = .ok rv w ∧ val e v = some rv := by
            unfold partD at hv
            unfold part
            simp only [Sem.run_bind, run_isAggT hd, Result.andThen_ok]
            cases ha : isAggT P el with
            | true =>
              rw [ha] at hv
              simp only [if_true] at hv
              split at hv
              · cases hv
                refine ⟨.agg ((l.drop (j * n)).take n).toArray, ?_, by simp only [val, vals_sub _ _ hl]⟩
                simp only [if_true, Sem.run_bind, run_sizeT hs, Result.andThen_ok]
                simp [List.extract_eq_take_drop]
              · cases hv
            | false =>
              rw [ha] at hv
              simp only [Bool.false_eq_true, if_false] at hv
              obtain ⟨rv, h1, h2⟩ := vals_get hl hv
              exact ⟨rv, by simp [h1], h2⟩
          obtain ⟨rv, h1, h2⟩ := hpart
          refine .pure r ?_ h2
          have hc : (0 : Int) ≤ (j : Int) ∧ (j : Int) < (k : Int) := by omega
          simp [execOp, ho, ← vx, hki, Instr.index, Sem.run_bind, asInt_nat, run_underlying hT, hc, run_sizeT hs, h1]
      · cases hn
    · cases hn
  · cases hn
theorem minmax_ok {b : Bool} : ∀ {xs : List DV} {x v : DV} {vx : Value} {vs : List Value}, val e x = some vx → vals e xs = some vs → minmaxD b x xs = some v → ∃ rv, (vs.foldlM (if b then Builtin.max2 else Builtin.min2) vx).run P w = .ok rv w ∧ val e v = some rv
  | [], x, v, vx, vs, hx, hxs, hm => by
    simp [vals] at hxs
    simp [minmaxD] at hm
    subst hxs; subst hm
    exact ⟨vx, rfl, hx⟩
  | y :: ys, x, v, vx, vs, hx, hxs, hm => by
    obtain ⟨k, n, hk⟩ : ∃ k n, x = .int k n := by
      cases x <;> first | exact ⟨_, _, rfl⟩ | simp [minmaxD] at hm
    subst hk
    obtain ⟨vy, vys, rfl, hy, hys⟩ := vals_cons hxs
    simp only [val, Option.some.injEq] at hx
    subst hx
    cases y with
    | int k' m =>
      simp only [val, Option.some.injEq] at hy
      subst hy
      simp only [minmaxD] at hm
      split at hm
      · next hkk =>
        subst hkk
        cases b with
        | true =>
          obtain ⟨rv, h1, h2⟩ := minmax_ok (b := true) (x := .int k (if n < m then m else n)) rfl hys (by simpa using hm)
          refine ⟨rv, ?_, h2⟩
          simp only [if_true] at h1 ⊢
          simp only [List.foldlM_cons, Sem.run_bind]
          exact h1
        | false =>
          obtain ⟨rv, h1, h2⟩ := minmax_ok (b := false) (x := .int k (if m < n then m else n)) rfl hys (by simpa using hm)
          refine ⟨rv, ?_, h2⟩
          simp only [Bool.false_eq_true, if_false] at h1 ⊢
          simp only [List.foldlM_cons, Sem.run_bind]
          exact h1
      · cases hm
    | _ => simp [minmaxD] at hm
theorem ok_minmax {b : Bool} {c : Call} {xs : List Opd} (hg : Glob P e) (hf : FrR e t a.tmps) (r : Rep e h w) (ho : o.op = .call c) (hc : c.callee = .builtin (if b then .max else .min)) (hx : c.args.toList.mapM (opdD P) = some xs) (hn : opD D t h (.minmax b xs) = some nx) : NxOk P e h w (execOp a.eval o) nx := by
  have vx := opds_ok hg hf hx
  simp only [opD] at hn
  split at hn
  · next x r' hxs =>
    split at hn
    · next v hv =>
      cases hn
      rw [hxs] at vx
      obtain ⟨y, ys, hys, h1, h2⟩ := vals_cons vx
      obtain ⟨rv, h3, h4⟩ := minmax_ok (P := P) (w := w) h1 h2 hv
      have hargs : (c.args.map a.eval).toList = y :: ys := by rw [Array.toList_map]; exact hys
      refine .pure r (rv := rv) ?_ h4
      cases b with
      | true =>
        have hmx : (Builtin.max_ c.argTypes o.type (c.args.map a.eval)).run P w = .ok rv w := by
          unfold Builtin.max_
          rw [hargs]
          exact h3
        simp [execOp, ho, resolve, hc, invoke, builtin, hmx]
      | false =>
        have hmx : (Builtin.min_ c.argTypes o.type (c.args.map a.eval)).run P w = .ok rv w := by
          unfold Builtin.min_
          rw [hargs]
          exact h3
        simp [execOp, ho, resolve, hc, invoke, builtin, hmx]
    · cases hn
  · cases hn
end
end Go.Dx
/- D: equality. -/
namespace Go.Dx
open Go

theorem bind_some {α β : Type} {x : Option α} {f : α → Option β} {r : β} (h : x.bind f = some r) : ∃ y, x = some y ∧ f y = some r := Option.bind_eq_some_iff.1 h

section
variable {P : Program} {e : Env} {t : Fr} {a : Act} {h : DHeap} {w : World} {o : Oper} {D : DProg} {nx : Nx}

theorem part_ok {T : TypeId} {dd : TypeDesc} {n off : Nat} {cs : List DV} {l : List Value} {v : DV} (hd : P.underlying T = some dd) (hs : sizeT P T = some n) (hl : vals e cs = some l) (hv : partD cs off n (isAggT P T) = some v) : ∃ rv, (part T l.toArray off).run P w = .ok rv w ∧ val e v = some rv := by
  unfold partD at hv
  unfold part
  simp only [Sem.run_bind, run_isAggT hd, Result.andThen_ok]
  cases ha : isAggT P T with
  | true =>
    rw [ha] at hv
    simp only [if_true] at hv
    split at hv
    · cases hv
      refine ⟨.agg ((l.drop off).take n).toArray, ?_, by simp only [val, vals_sub _ _ hl]⟩
      simp only [if_true, Sem.run_bind, run_sizeT hs, Result.andThen_ok]
      simp [List.extract_eq_take_drop]
    · cases hv
  | false =>
    rw [ha] at hv
    simp only [Bool.false_eq_true, if_false] at hv
    obtain ⟨rv, h1, h2⟩ := vals_get hl hv
    exact ⟨rv, by simp [h1], h2⟩
theorem ety_under {n : Nat} {T : TypeId} {x : ETy} (h : etyD P n T = some x) : ∃ d, P.underlying T = some d := by
  cases n with
  | zero => simp [etyD] at h
  | succ n =>
    cases hu : P.underlying T with
    | none => simp [etyD, hu] at h
    | some d => exact ⟨d, rfl⟩

/-- equality at a depth -/
def EqOk (P : Program) (e : Env) (w : World) (f : ETy → DV → DV → Option Bool) (m : Nat) : Prop :=
  ∀ (n : Nat) (T : TypeId) (x : ETy) (u v : DV) (ru rv : Value) (b : Bool), etyD P n T = some x → val e u = some ru → val e v = some rv → f x u v = some b → (Op.equalIn m T ru rv).run P w = .ok b w
theorem go_fields {f : ETy → DV → DV → Option Bool} {m n : Nat} (hf : EqOk P e w f m) {xs ys : List DV} {lx ly : List Value} (hx : vals e xs = some lx) (hy : vals e ys = some ly) : ∀ {fs : List Field} {lst : List (Nat × Nat × Bool × ETy)} {b : Bool},
    ((fs.filter fun (f : Field) => f.name != "_").mapM fun (f : Field) => do pure (f.offset, ← sizeT P f.type, isAggT P f.type, ← etyD P n f.type)) = some lst → goEq f xs ys lst = some b → (Op.eqFields m lx.toArray ly.toArray fs).run P w = .ok b w
  | [], lst, b, hm, hg => by
    rw [List.filter_nil] at hm
    rw [mapM_nil_some hm] at hg
    simp only [goEq, Option.some.injEq] at hg
    subst hg
    rfl
  | fd :: fs, lst, b, hm, hg => by
    simp only [List.filter_cons] at hm
    unfold Op.eqFields
    by_cases hn : fd.name = "_"
    · rw [if_neg (by simp [hn])] at hm ⊢
      exact go_fields hf hx hy hm hg
    · rw [if_pos (by simpa using hn)] at hm
      rw [if_pos hn]
      obtain ⟨q, qs, rfl, hq, hqs⟩ := mapM_cons_some hm
      simp only [Option.bind_eq_bind, Option.pure_def] at hq
      obtain ⟨sz, hsz, hq⟩ := bind_some hq
      obtain ⟨ety, hety, hq⟩ := bind_some hq
      cases hq
      obtain ⟨dd, hdd⟩ := ety_under hety
      simp only [goEq] at hg
      split at hg
      · next x y hpx hpy =>
        obtain ⟨rx, p1, v1⟩ := part_ok (w := w) hdd hsz hx hpx
        obtain ⟨ry, p2, v2⟩ := part_ok (w := w) hdd hsz hy hpy
        simp only [Sem.run_bind, p1, p2, Result.andThen_ok]
        split at hg
        · next heq =>
          rw [hf n _ _ _ _ _ _ _ hety v1 v2 heq]
          simp only [Result.andThen_ok, Bool.not_true, Bool.false_eq_true, if_false]
          exact go_fields hf hx hy hqs hg
        · next heq =>
          cases hg
          rw [hf n _ _ _ _ _ _ _ hety v1 v2 heq]
          rfl
        · cases hg
      · cases hg
theorem go_items {f : ETy → DV → DV → Option Bool} {m n c : Nat} {el : TypeId} {ety : ETy} (hf : EqOk P e w f m) (hety : etyD P n el = some ety) (hc : sizeT P el = some c) {xs ys : List DV} {lx ly : List Value} (hx : vals e xs = some lx) (hy : vals e ys = some ly) : ∀ {is : List Nat} {b : Bool},
    goEq f xs ys (is.map fun i => (i * c, c, isAggT P el, ety)) = some b → (Op.eqItems m el c lx.toArray ly.toArray is).run P w = .ok b w
  | [], b, hg => by
    simp only [List.map_nil, goEq, Option.some.injEq] at hg
    subst hg
    rfl
  | i :: is, b, hg => by
    obtain ⟨dd, hdd⟩ := ety_under hety
    unfold Op.eqItems
    simp only [List.map_cons, goEq] at hg
    split at hg
    · next x y hpx hpy =>
      obtain ⟨rx, p1, v1⟩ := part_ok (w := w) hdd hc hx hpx
      obtain ⟨ry, p2, v2⟩ := part_ok (w := w) hdd hc hy hpy
      simp only [Sem.run_bind, p1, p2, Result.andThen_ok]
      split at hg
      · next heq =>
        rw [hf n _ _ _ _ _ _ _ hety v1 v2 heq]
        simp only [Result.andThen_ok, Bool.not_true, Bool.false_eq_true, if_false]
        exact go_items hf hety hc hx hy hg
      · next heq =>
        cases hg
        rw [hf n _ _ _ _ _ _ _ hety v1 v2 heq]
        rfl
      · cases hg
    · cases hg
theorem eqBool_ok {T : TypeId} {u v : DV} {ru rv : Value} {b : Bool} (m : Nat) (hT : P.underlying T = some .bool) (hu : val e u = some ru) (hv : val e v = some rv) (he : eqBool u v = some b) : (Op.equalIn (m + 1) T ru rv).run P w = .ok b w := by
  unfold eqBool at he
  split at he
  · simp only [val, Option.some.injEq] at hu hv he
    subst hu; subst hv; subst he
    exact run_equalIn_bool w _ _ _ _ hT
  · cases he
theorem eqInt_ok {T : TypeId} {u v : DV} {ru rv : Value} {b : Bool} {kk : IntKind} (m : Nat) (hT : P.underlying T = some (.int kk)) (hu : val e u = some ru) (hv : val e v = some rv) (he : eqInt u v = some b) : (Op.equalIn (m + 1) T ru rv).run P w = .ok b w := by
  unfold eqInt at he
  split at he
  · split at he
    · next hk =>
      simp only [val, Option.some.injEq] at hu hv he
      subst hu; subst hv; subst he; subst hk
      exact run_equalIn_int w _ _ _ _ _ _ hT
    · cases he
  · cases he
theorem eqStr_ok {T : TypeId} {u v : DV} {ru rv : Value} {b : Bool} (m : Nat) (hT : P.underlying T = some .string) (hu : val e u = some ru) (hv : val e v = some rv) (he : eqStr u v = some b) : (Op.equalIn (m + 1) T ru rv).run P w = .ok b w := by
  unfold eqStr at he
  split at he
  · simp only [val, Option.some.injEq] at hu hv he
    subst hu; subst hv; subst he
    rw [run_equalIn_string w _ _ _ _ hT, toList_list, toList_list, bytesEq_eq]
  · cases he
theorem eqPtr_ok {T el : TypeId} {u v : DV} {ru rv : Value} {b : Bool} {sz : Nat} (m : Nat) (hT : P.underlying T = some (.pointer el)) (hs : sizeT P el = some sz) (h0 : sz ≠ 0) (hu : val e u = some ru) (hv : val e v = some rv) (he : eqPtr u v = some b) : (Op.equalIn (m + 1) T ru rv).run P w = .ok b w := by
  unfold eqPtr at he
  split at he
  · simp only [val, Option.some.injEq] at hu hv he
    subst hu; subst hv; subst he
    simp [Op.equalIn, Sem.run_bind, run_underlying hT]
  · obtain ⟨y, hy, rfl⟩ := ptr_val hv
    simp only [val, Option.some.injEq] at hu he
    subst hu; subst he
    simp [Op.equalIn, Sem.run_bind, run_underlying hT]
  · obtain ⟨y, hy, rfl⟩ := ptr_val hu
    simp only [val, Option.some.injEq] at hv he
    subst hv; subst he
    simp [Op.equalIn, Sem.run_bind, run_underlying hT]
  · next b1 o1 b2 o2 =>
    split at he
    · next hbb =>
      subst hbb
      obtain ⟨y, hy, rfl⟩ := ptr_val hu
      obtain ⟨y', hy', rfl⟩ := ptr_val hv
      rw [hy] at hy'
      cases hy'
      simp only [Option.some.injEq] at he
      subst he
      have hb : ((⟨y.blk, y.base + o1, none⟩ : Addr) == ⟨y.blk, y.base + o2, none⟩) = decide (o1 = o2) := by
        by_cases hoo : o1 = o2
        · subst hoo; simp
        · rw [decide_eq_false hoo]
          apply beq_false_of_ne
          intro hc
          simp only [Addr.mk.injEq] at hc
          omega
      simp only [Op.equalIn, Sem.run_bind, run_underlying hT, run_sizeT hs, Result.andThen_ok]
      rw [if_pos h0]
      simp only [sameAddr, beq_self_eq_true, if_true, hb]
      rfl
    · cases he
  · cases he
theorem eqSl_ok {T el : TypeId} {u v : DV} {ru rv : Value} {b : Bool} (m : Nat) (hT : P.underlying T = some (.slice el)) (hu : val e u = some ru) (hv : val e v = some rv) (he : eqSl u v = some b) : (Op.equalIn (m + 1) T ru rv).run P w = .ok b w := by
  unfold eqSl at he
  split at he
  · simp only [val, Option.some.injEq] at hu hv he
    subst hu; subst hv; subst he
    simp [Op.equalIn, Sem.run_bind, run_underlying hT]
  · obtain ⟨y, hy, rfl⟩ := slice_val hv
    simp only [val, Option.some.injEq] at hu he
    subst hu; subst he
    simp [Op.equalIn, Sem.run_bind, run_underlying hT]
  · obtain ⟨y, hy, rfl⟩ := slice_val hu
    simp only [val, Option.some.injEq] at hv he
    subst hv; subst he
    simp [Op.equalIn, Sem.run_bind, run_underlying hT]
  · cases he
theorem eqMap_ok {T kt el : TypeId} {u v : DV} {ru rv : Value} {b : Bool} (m : Nat) (hT : P.underlying T = some (.map kt el)) (hu : val e u = some ru) (hv : val e v = some rv) (he : eqMap u v = some b) : (Op.equalIn (m + 1) T ru rv).run P w = .ok b w := by
  unfold eqMap at he
  split at he
  · simp only [val, Option.some.injEq] at hu hv he
    subst hu; subst hv; subst he
    simp [Op.equalIn, Sem.run_bind, run_underlying hT]
  · obtain ⟨y, hy, rfl⟩ := map_val hv
    simp only [val, Option.some.injEq] at hu he
    subst hu; subst he
    simp [Op.equalIn, Sem.run_bind, run_underlying hT]
  · obtain ⟨y, hy, rfl⟩ := map_val hu
    simp only [val, Option.some.injEq] at hv he
    subst hv; subst he
    simp [Op.equalIn, Sem.run_bind, run_underlying hT]
  · cases he
theorem func_val {fn : Fn} {f c : List DV} {v : Value} (hv : val e (.func fn f c) = some v) : ∃ x y, vals e f = some x ∧ vals e c = some y ∧ v = .func fn x.toArray y.toArray := by
  cases hf : vals e f with
  | none => simp [val, hf] at hv
  | some x =>
    cases hc : vals e c with
    | none => simp [val, hf, hc] at hv
    | some y => simp only [val, hf, hc, Option.some.injEq] at hv; exact ⟨x, y, rfl, rfl, hv.symm⟩
theorem eqFn_ok {T : TypeId} {ps rs : Array TypeId} {va : Bool} {u v : DV} {ru rv : Value} {b : Bool} (m : Nat) (hT : P.underlying T = some (.func ps rs va)) (hu : val e u = some ru) (hv : val e v = some rv) (he : eqFn u v = some b) : (Op.equalIn (m + 1) T ru rv).run P w = .ok b w := by
  unfold eqFn at he
  split at he
  · simp only [val, Option.some.injEq] at hu hv he
    subst hu; subst hv; subst he
    simp [Op.equalIn, Sem.run_bind, run_underlying hT]
  · obtain ⟨x, y, _, _, rfl⟩ := func_val hv
    simp only [val, Option.some.injEq] at hu he
    subst hu; subst he
    simp [Op.equalIn, Sem.run_bind, run_underlying hT]
  · obtain ⟨x, y, _, _, rfl⟩ := func_val hu
    simp only [val, Option.some.injEq] at hv he
    subst hv; subst he
    simp [Op.equalIn, Sem.run_bind, run_underlying hT]
  · cases he
theorem iface_val {T : TypeId} {x : DV} {v : Value} (hv : val e (.iface T x) = some v) : ∃ r, val e x = some r ∧ v = .iface T r := by
  cases hx : val e x with
  | none => simp [val, hx] at hv
  | some r => simp only [val, hx, Option.some.injEq] at hv; exact ⟨r, rfl, hv.symm⟩
theorem agg_val {cs : List DV} {v : Value} (hv : val e (.agg cs) = some v) : ∃ l, vals e cs = some l ∧ v = .agg l.toArray := by
  cases hx : vals e cs with
  | none => simp [val, hx] at hv
  | some r => simp only [val, hx, Option.some.injEq] at hv; exact ⟨r, rfl, hv.symm⟩
theorem eqIf_ok {et : TypeId → Option ETy} (het : ∀ T x, et T = some x → etyD P 8 T = some x ∧ ∃ i, P.info? T = some i ∧ i.comparable = true) {T : TypeId} {ms : Array (String × TypeId)} {ne : Bool} {u v : DV} {ru rv : Value} {b : Bool} {m : Nat} {f : ETy → DV → DV → Option Bool} (hf : EqOk P e w f m) (hT : P.underlying T = some (.interface ms)) (hu : val e u = some ru) (hv : val e v = some rv) (he : eqIf et f ne u v = some b) : (Op.equalIn (m + 1) T ru rv).run P w = .ok b w := by
  unfold eqIf at he
  split at he
  · split at he
    · cases he
    · simp only [val, Option.some.injEq] at hu hv he
      subst hu; subst hv; subst he
      simp [Op.equalIn, Sem.run_bind, run_underlying hT]
  · obtain ⟨y, hy, rfl⟩ := iface_val hv
    simp only [val, Option.some.injEq] at hu he
    subst hu; subst he
    simp [Op.equalIn, Sem.run_bind, run_underlying hT]
  · obtain ⟨y, hy, rfl⟩ := iface_val hu
    simp only [val, Option.some.injEq] at hv he
    subst hv; subst he
    simp [Op.equalIn, Sem.run_bind, run_underlying hT]
  · next t1 v1 t2 v2 =>
    obtain ⟨y1, hy1, rfl⟩ := iface_val hu
    obtain ⟨y2, hy2, rfl⟩ := iface_val hv
    split at he
    · next hne =>
      cases he
      simp [Op.equalIn, Sem.run_bind, run_underlying hT, hne]
    · next heq =>
      have heq : t1 = t2 := by simpa using heq
      subst heq
      split at he
      · next e' hee =>
        obtain ⟨h1, i, h2, h3⟩ := het _ _ hee
        have := hf _ _ _ _ _ _ _ _ h1 hy1 hy2 he
        simp [Op.equalIn, Sem.run_bind, run_underlying hT, typeInfo, h2, h3, this]
      · cases he
  · cases he
theorem eqD_ok {et : TypeId → Option ETy} (het : ∀ T x, et T = some x → etyD P 8 T = some x ∧ ∃ i, P.info? T = some i ∧ i.comparable = true) : ∀ (d k : Nat), EqOk P e w (eqD et d) (d + k)
  | 0, k => fun n T x u v ru rv b _ _ _ he => by simp [eqD] at he
  | d + 1, k => fun n T x u v ru rv b hx hu hv he => by
    have ih := eqD_ok het d k
    rw [show d + 1 + k = (d + k) + 1 by omega]
    cases n with
    | zero => simp [etyD] at hx
    | succ n =>
      simp only [etyD] at hx
      split at hx
      · next hT => cases hx; exact eqBool_ok _ hT hu hv he
      · next kk hT => cases hx; exact eqInt_ok _ hT hu hv he
      · next hT => cases hx; exact eqStr_ok _ hT hu hv he
      · next el hT =>
        split at hx
        · cases hx
        · next sz hne hsz => cases hx; exact eqPtr_ok _ hT hsz hne hu hv he
        · cases hx
      · next ms hT => cases hx; exact eqIf_ok het ih hT hu hv he
      · next el hT => cases hx; exact eqSl_ok _ hT hu hv he
      · next hT => cases hx; exact eqMap_ok _ hT hu hv he
      · next hT => cases hx; exact eqFn_ok _ hT hu hv he
      · next c el hT =>
        simp only [Option.bind_eq_bind, Option.pure_def] at hx
        obtain ⟨sz, hsz, hx⟩ := bind_some hx
        obtain ⟨ety, hety, hx⟩ := bind_some hx
        cases hx
        simp only [eqD] at he
        unfold eqAgg at he
        split at he
        · obtain ⟨lx, hlx, rfl⟩ := agg_val hu
          obtain ⟨ly, hly, rfl⟩ := agg_val hv
          obtain ⟨i, hi⟩ : ∃ i, P.info? el = some i := by
            unfold sizeT at hsz
            cases hi : P.info? el with
            | none => simp [hi] at hsz
            | some i => exact ⟨i, rfl⟩
          have hc : P.cellsOf el = sz := by unfold Program.cellsOf; unfold sizeT at hsz; rw [hsz]; rfl
          rw [run_equalIn_array w _ _ _ hT hi, hc]
          exact go_items ih hety hsz hlx hly he
        · cases he
      · next fs hT =>
        split at hx
        · cases hx
        · next hst =>
          simp only [Option.map_eq_some_iff] at hx
          obtain ⟨lst, hlst, rfl⟩ := hx
          simp only [eqD] at he
          unfold eqAgg at he
          split at he
          · obtain ⟨lx, hlx, rfl⟩ := agg_val hu
            obtain ⟨ly, hly, rfl⟩ := agg_val hv
            have hfs : P.fieldsOf T = fs := by unfold Program.fieldsOf; rw [hT]
            rw [run_equalIn_struct w _ _ _ _ (by rw [hfs]; exact hT) (by simpa using hst), hfs]
            exact go_fields ih hlx hly hlst he
          · cases he
      · cases hx
end
end Go.Dx
