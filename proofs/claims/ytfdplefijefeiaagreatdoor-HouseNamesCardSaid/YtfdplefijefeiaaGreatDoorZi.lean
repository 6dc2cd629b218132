/- D: steps of iterations. -/
import Derived.Test.YtfdplefijefeiaaGreatDoorZh
namespace Go.Dx
open Go

theorem ents_filter {e : Env} (p : Nat → Bool) : ∀ {es : List (DV × DV × Nat)} {ms : List MapEntry}, ents e es = some ms → ents e (es.filter fun x => p x.2.2) = some (ms.filter fun x => p x.born)
  | [], ms, h => by simp [ents] at h; subst h; rfl
  | (k, v, n) :: es, ms, h => by
    obtain ⟨k', v', es', rfl, hk, hv, hs⟩ := ents_cons h
    have ih := ents_filter p hs
    simp only [List.filter_cons]
    cases hp : p n with
    | true => simp [ents, hk, hv, ih]
    | false => simpa using ih
theorem ents_all {e : Env} (p : Nat → Bool) : ∀ {es : List (DV × DV × Nat)} {ms : List MapEntry}, ents e es = some ms → (es.all fun x => p x.2.2) = ms.all fun x => p x.born
  | [], ms, h => by simp [ents] at h; subst h; rfl
  | (k, v, n) :: es, ms, h => by
    obtain ⟨k', v', es', rfl, hk, hv, hs⟩ := ents_cons h
    simp [ents_all p hs]
theorem ents_find {e : Env} (p : Nat → Bool) : ∀ {es : List (DV × DV × Nat)} {ms : List MapEntry} {k v : DV} {n : Nat}, ents e es = some ms → (es.find? fun x => p x.2.2) = some (k, v, n) → ∃ k' v', ms.find? (fun x => p x.born) = some ⟨k', v', n⟩ ∧ val e k = some k' ∧ val e v = some v'
  | [], ms, k, v, n, h, hf => by simp at hf
  | (k1, v1, n1) :: es, ms, k, v, n, h, hf => by
    obtain ⟨k', v', es', rfl, hk, hv, hs⟩ := ents_cons h
    simp only [List.find?_cons] at hf ⊢
    cases hp : p n1 with
    | true =>
      rw [hp] at hf
      simp only [Option.some.injEq, Prod.mk.injEq] at hf
      obtain ⟨rfl, rfl, rfl⟩ := hf
      exact ⟨k', v', by simp [hp], hk, hv⟩
    | false =>
      rw [hp] at hf
      simpa [hp] using ents_find p hs hf

section
variable {P : Program} {e : Env} {t : Fr} {a : Act} {h : DHeap} {w : World} {o : Oper} {D : DProg} {nx : Nx}

theorem run_getObj {B : Nat} {ob : Obj} (hb : w.heap[B]? = some ob) (hn : ∀ a b c, ob ≠ .cells a b c) : (getObj B).run P w = .ok ob w := by
  simp only [getObj, Sem.run, hb]
theorem base_ptr (r : Rep e h w) {b : Nat} {ob : DObj} {v : Value} (hg : h.get b = some ob) (hv : val e (.ptr b 0) = some v) : ∃ x, e b = some x ∧ objAt e w x ob ∧ v = .pointer (some ⟨x.blk, x.base, none⟩) := by
  obtain ⟨x, hx, ho⟩ := r.obj b ob hg
  obtain ⟨y, hy, hv⟩ := ptr_val hv
  rw [hx] at hy
  cases hy
  exact ⟨x, hx, ho, hv⟩
theorem decode_ok {s : List UInt8} {p c wd : Nat} (h : decodeD (s.drop p) = some (c, wd)) : Utf8.decode ⟨s.toArray⟩ p = (c, wd) := by
  unfold decodeD at h
  split at h
  · next b l heq =>
    split at h
    · next hlt =>
      simp only [Option.some.injEq, Prod.mk.injEq] at h
      obtain ⟨rfl, rfl⟩ := h
      have hp : p < s.length := by
        refine Nat.lt_of_not_le fun hle => ?_
        rw [List.drop_eq_nil_of_le hle] at heq
        cases heq
      have hb : s[p] = b := by
        rw [List.drop_eq_getElem_cons hp] at heq
        exact (List.cons.inj heq).1
      have hg : ((⟨s.toArray⟩ : ByteArray).get! (p + 0)) = b := by
        rw [Nat.add_zero, ← hb]
        show (s.toArray[p]!) = _
        simp [hp]
      unfold Utf8.decode
      simp only [hg]
      rw [if_pos hlt]
    · cases h
  · cases h
theorem ok_nextStr {x : Operand} (hg : Glob P e) (hf : FrR e t a.tmps) (r : Rep e h w) (ho : o.op = .next x true) {x' : Opd} (hx : opdD P x = some x') (hn : opD D t h (.nextStr x') = some nx) : NxOk P e h w (execOp a.eval o) nx := by
  have vx := opd_ok hg hf hx
  simp only [opD] at hn
  split at hn
  · next rr hb =>
    rw [hb] at vx
    split at hn
    · next s p hgr =>
      obtain ⟨y, hy, hob, hv⟩ := base_ptr r hgr vx
      obtain ⟨hbase, hbk⟩ := hob
      rw [hbase] at hv
      split at hn
      · next hlt =>
        split at hn
        · next c wd hdec =>
          cases hn
          have hd := decode_ok hdec
          refine ⟨e, _, setObj_step r hgr rfl rfl hy (ob' := .stringIter ⟨s.toArray⟩ (p + wd)) ⟨hbase, setObj_at (r.lt rr y hy) _⟩, .inl ⟨.tuple #[.bool true, .int .i64 p, .int .i32 c], ?_, rfl⟩⟩
          simp only [execOp, ho, hv, Instr.next, Sem.run_bind, run_getObj hbk (fun _ _ _ => by simp), Result.andThen_ok]
          rw [if_pos (by rw [size_list]; exact hlt)]
          simp only [hd, Sem.run_bind]
          rw [run_setMap hbk (fun _ _ _ => by simp)]
          rfl
        · cases hn
      · next hlt =>
        cases hn
        refine .pure r (rv := .tuple #[.bool false]) ?_ rfl
        simp only [execOp, ho, hv, Instr.next, Sem.run_bind, run_getObj hbk (fun _ _ _ => by simp), Result.andThen_ok]
        rw [if_neg (by rw [size_list]; exact hlt)]
        rfl
    · cases hn
  · cases hn
theorem contains_list (l : List Nat) (n : Nat) : l.toArray.contains n = l.contains n := by simp
theorem ok_nextMap {x : Operand} (hg : Glob P e) (hf : FrR e t a.tmps) (r : Rep e h w) (ho : o.op = .next x false) {x' : Opd} (hx : opdD P x = some x') (hn : opD D t h (.nextMap x') = some nx) : NxOk P e h w (execOp a.eval o) nx := by
  have vx := opd_ok hg hf hx
  simp only [opD] at hn
  split at hn
  · next rr hb =>
    rw [hb] at vx
    split at hn
    · next since seen st hgr =>
      cases hn
      obtain ⟨y, hy, hob, hv⟩ := base_ptr r hgr vx
      obtain ⟨hbase, mr, hmr, hbk⟩ := hob
      rw [hbase] at hv
      simp only [mref, Option.some.injEq] at hmr
      subst hmr
      refine .pure r (rv := .tuple #[.bool false]) ?_ rfl
      simp only [execOp, ho, hv, Instr.next, Sem.run_bind, run_getObj hbk (fun _ _ _ => by simp), Result.andThen_ok]
      rfl
    · next m since seen last hgr =>
      obtain ⟨y, hy, hob, hv⟩ := base_ptr r hgr vx
      obtain ⟨hbase, mr, hmr, hbk⟩ := hob
      rw [hbase] at hv
      split at hn
      · next es cl hgm =>
        obtain ⟨z, ms, hz, hms, hbm⟩ := map_obj r hgm
        simp only [mref, hz, Option.some.injEq] at hmr
        subst hmr
        split at hn
        · cases hn
        next hguard =>
        have hleft := ents_filter (fun n => !seen.contains n) hms
        have hgd : ¬ ((!seen.toArray.isEmpty && !ms.toArray.isEmpty && ms.toArray.all (·.born ≥ last)) = true) := by
          intro hc
          apply hguard
          have h1 : es.isEmpty = ms.isEmpty := by
            cases es with
            | nil => simp only [ents, Option.some.injEq] at hms; rw [← hms]; rfl
            | cons p es => obtain ⟨k, v, n⟩ := p; obtain ⟨_, _, _, rfl, _⟩ := ents_cons hms; rfl
          have h2 := ents_all (fun n => decide (last ≤ n)) hms
          have e1 : ms.toArray.all (fun x => decide (x.born ≥ last)) = ms.all (fun x => decide (last ≤ x.born)) := by simp
          rw [e1, List.isEmpty_toArray, List.isEmpty_toArray] at hc
          rw [h1, h2]
          exact hc
        have hfil : ms.toArray.filter (fun e => !seen.toArray.contains e.born) = (ms.filter fun e => !seen.contains e.born).toArray := by simp
        split at hn
        · next hnil =>
          cases hn
          rw [hnil] at hleft
          simp only [ents, Option.some.injEq] at hleft
          refine .pure r (rv := .tuple #[.bool false]) ?_ rfl
          simp only [execOp, ho, hv, Instr.next, Sem.run_bind, run_getObj hbk (fun _ _ _ => by simp), run_getMap hbm, Result.andThen_ok]
          rw [if_neg hgd]
          simp only [hfil, ← hleft]
          simp [choose, Sem.run, Question.forced]
        · next k v n hone =>
          split at hn
          · next hsince =>
            cases hn
            rw [hone] at hleft
            obtain ⟨k', v', ms', hmf, hk', hv', hnil⟩ := ents_cons (hleft.symm ▸ rfl : ents e [(k, v, n)] = some (ms.filter fun e => !seen.contains e.born))
            simp only [ents, Option.some.injEq] at hnil
            subst hnil
            refine ⟨e, _, setObj_step r hgr rfl rfl hy (ob' := .mapIter (some z.blk) since (seen ++ [n]).toArray cl) ⟨hbase, some z.blk, by simp [mref, hz], setObj_at (r.lt rr y hy) _⟩, .inl ⟨.tuple #[.bool true, k', v'], ?_, by simp [val, vals, hk', hv']⟩⟩
            simp only [execOp, ho, hv, Instr.next, Sem.run_bind, run_getObj hbk (fun _ _ _ => by simp), run_getMap hbm, Result.andThen_ok]
            rw [if_neg hgd]
            simp only [hfil, hmf]
            have h1 : ¬ since ≤ n := by omega
            simp [hsince, h1, choose, Sem.run, Question.forced]
            rw [run_setMap hbk (fun _ _ _ => by simp)]
            rfl
          · cases hn
        · cases hn
      · cases hn
    · cases hn
  · cases hn
end
end Go.Dx
