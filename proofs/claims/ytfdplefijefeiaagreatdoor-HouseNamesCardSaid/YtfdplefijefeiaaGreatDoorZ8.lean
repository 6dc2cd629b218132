/- D: further operations that only compute. -/
import Derived.Test.YtfdplefijefeiaaGreatDoorZ7
namespace Go.Dx
open Go

theorem natOf_val {e : Env} {d : DV} {n : Nat} {v : Value} (h : natOf d = some n) (hv : val e d = some v) : ∃ k, v = .int k n := by
  unfold natOf at h
  split at h
  · next k m =>
    cases h
    simp only [val, Option.some.injEq] at hv
    exact ⟨k, hv.symm⟩
  · cases h
theorem asInt_nat {P : Program} (k : IntKind) (n : Nat) (w : World) : (asIntOf (.int k n)).run P w = .ok (k, (n : Int)) w := rfl

theorem run_bound {P : Program} {w : World} (k : IntKind) {n y : Nat} (code : BoundsCode) (h : n ≤ y) : (Instr.sliceBound (.int k n) y code).run P w = .ok n w := by
  unfold Instr.sliceBound
  rw [Sem.run_bind, asInt_nat]
  show Sem.run P (if (0 : Int) ≤ (n : Int) ∧ (n : Int) ≤ (y : Int) then _ else _) w = _
  rw [if_pos ⟨by omega, by omega⟩]
  rfl
section
variable {P : Program} {e : Env} {t : Fr} {a : Act} {h : DHeap} {w : World} {o : Oper} {D : DProg} {nx : Nx}

theorem ok_un {op : UnOp} {x : Operand} {T : TypeId} (hg : Glob P e) (hf : FrR e t a.tmps) (r : Rep e h w) (ho : o.op = .unOp op T x) {x' : Opd} (hx : opdD P x = some x') (hn : opD D t h (.un op x') = some nx) : NxOk P e h w (execOp a.eval o) nx := by
  have vx := opd_ok hg hf hx
  simp only [opD] at hn
  split at hn
  · next k n hb =>
    cases hn
    rw [hb] at vx
    simp only [val, Option.some.injEq] at vx
    exact .pure r (rv := .int k (k.wrap (0 - n))) (by simp [execOp, ho, ← vx, Op.unary, Op.intArith]) (by simp only [val, wrapD_eq])
  · next b hb =>
    cases hn
    rw [hb] at vx
    simp only [val, Option.some.injEq] at vx
    exact .pure r (rv := .bool !b) (by simp [execOp, ho, ← vx, Op.unary]) rfl
  · next k n hb =>
    cases hn
    rw [hb] at vx
    simp only [val, Option.some.injEq] at vx
    exact .pure r (rv := .int k (k.wrap (BitVec.ofInt k.bits (if k.signed then -1 else k.max) ^^^ BitVec.ofInt k.bits n).toNat)) (by simp [execOp, ho, ← vx, Op.unary, Op.intBits]) rfl
  · cases hn
theorem ok_convInt {s d : TypeId} {x : Operand} {k k0 : IntKind} (hg : Glob P e) (hf : FrR e t a.tmps) (r : Rep e h w) (ho : o.op = .convert s d x) (hs : P.underlying s = some (.int k0)) (hd : P.underlying d = some (.int k)) {x' : Opd} (hx : opdD P x = some x') (hn : opD D t h (.convInt k x') = some nx) : NxOk P e h w (execOp a.eval o) nx := by
  have vx := opd_ok hg hf hx
  simp only [opD] at hn
  split at hn
  · next k1 n hb =>
    cases hn
    rw [hb] at vx
    simp only [val, Option.some.injEq] at vx
    refine .pure r (rv := .int k (k.wrap n)) ?_ (by simp only [val, wrapD_eq])
    simp [execOp, ho, ← vx, convert, Sem.run_bind, run_underlying hs, run_underlying hd, Conv.intToInt]
  · cases hn
theorem ok_convStr {s d : TypeId} {x : Operand} (hg : Glob P e) (hf : FrR e t a.tmps) (r : Rep e h w) (ho : o.op = .convert s d x) (hs : P.underlying s = some .string) (hd : P.underlying d = some .string) {x' : Opd} (hx : opdD P x = some x') (hn : opD D t h (.movStr x') = some nx) : NxOk P e h w (execOp a.eval o) nx := by
  have vx := opd_ok hg hf hx
  simp only [opD] at hn
  split at hn
  · next n hb =>
    cases hn
    rw [hb] at vx
    refine .pure r (rv := a.eval x) ?_ vx
    simp only [val, Option.some.injEq] at vx
    simp [execOp, ho, ← vx, convert, Sem.run_bind, run_underlying hs, run_underlying hd]
  · cases hn
theorem ok_field {T : TypeId} {x : Operand} {i : Nat} {fs : Array Field} {f : Field} {n : Nat} {dd : TypeDesc} (hg : Glob P e) (hf : FrR e t a.tmps) (r : Rep e h w) (ho : o.op = .field T x i) (hT : P.underlying T = some (.struct fs)) (hi : fs[i]? = some f) (hs : sizeT P f.type = some n) (hd : P.underlying f.type = some dd)
    {x' : Opd} (hx : opdD P x = some x') (hn : opD D t h (.field f.offset n (isAggT P f.type) x') = some nx) : NxOk P e h w (execOp a.eval o) nx := by
  have vx := opd_ok hg hf hx
  simp only [opD] at hn
  split at hn
  · next cs hb =>
    rw [hb] at vx
    split at hn
    · next v hv =>
      cases hn
      simp only [val] at vx
      cases hl : vals e cs with
      | none => simp [hl] at vx
      | some l =>
        simp only [hl, Option.some.injEq] at vx
        have hpart : ∃ rv, (part f.type l.toArray f.offset).run P w = .ok rv w ∧ val e v = some rv := by
          unfold partD at hv
          unfold part
          simp only [Sem.run_bind, run_isAggT hd, Result.andThen_ok]
          cases ha : isAggT P f.type with
          | true =>
            rw [ha] at hv
            simp only [if_true] at hv
            split at hv
            · cases hv
              refine ⟨.agg ((l.drop f.offset).take n).toArray, ?_, by simp only [val, vals_sub _ _ hl]⟩
              simp only [if_true, Sem.run_bind, run_sizeT hs, Result.andThen_ok]
              simp [List.extract_eq_take_drop]
            · cases hv
          | false =>
            rw [ha] at hv
            simp only [Bool.false_eq_true, if_false] at hv
            obtain ⟨rv, h1, h2⟩ := vals_get hl hv
            exact ⟨rv, by simp [h1], h2⟩
        obtain ⟨rv, h1, h2⟩ := hpart
        refine .pure r ?_ h2
        simp [execOp, ho, ← vx, Instr.field, Sem.run_bind, run_underlying hT, hi, asAgg, h1]
    · cases hn
  · cases hn
theorem ok_lenStr {c : Call} {x : Operand} {T : TypeId} (hg : Glob P e) (hf : FrR e t a.tmps) (r : Rep e h w) (ho : o.op = .call c) (hc : c.callee = .builtin .len) (hxs : c.args.toList = [x]) (hT : c.argTypes[0]? = some T) (hu : P.underlying T = some .string)
    {x' : Opd} (hx : opdD P x = some x') (hn : opD D t h (.lenStr x') = some nx) : NxOk P e h w (execOp a.eval o) nx := by
  have vx := opd_ok hg hf hx
  have hargs : c.args = #[x] := by apply Array.toList_inj.1; simpa using hxs
  simp only [opD] at hn
  split at hn
  · next s hb =>
    cases hn
    rw [hb] at vx
    simp only [val, Option.some.injEq] at vx
    refine .pure r (rv := .int .i64 s.length) ?_ rfl
    simp [execOp, ho, resolve, hc, hargs, invoke, builtin, Builtin.len_, hT, ← vx, Sem.run_bind, run_underlying hu, goInt, size_list]
  · cases hn
theorem ok_lenSl {c : Call} {x : Operand} {T el : TypeId} (hg : Glob P e) (hf : FrR e t a.tmps) (r : Rep e h w) (ho : o.op = .call c) (hc : c.callee = .builtin .len) (hxs : c.args.toList = [x]) (hT : c.argTypes[0]? = some T) (hu : P.underlying T = some (.slice el))
    {x' : Opd} (hx : opdD P x = some x') (hn : opD D t h (.lenSl x') = some nx) : NxOk P e h w (execOp a.eval o) nx := by
  have vx := opd_ok hg hf hx
  have hargs : c.args = #[x] := by apply Array.toList_inj.1; simpa using hxs
  simp only [opD] at hn
  split at hn
  · next hb =>
    cases hn
    rw [hb] at vx
    simp only [val, Option.some.injEq] at vx
    refine .pure r (rv := .int .i64 0) ?_ rfl
    simp [execOp, ho, resolve, hc, hargs, invoke, builtin, Builtin.len_, hT, ← vx, Sem.run_bind, run_underlying hu, goInt]
  · next b o' z hb =>
    cases hn
    rw [hb] at vx
    simp only [val] at vx
    cases he : e b with
    | none => simp [he] at vx
    | some y =>
      simp only [he, Option.some.injEq] at vx
      refine .pure r (rv := .int .i64 0) ?_ rfl
      simp [execOp, ho, resolve, hc, hargs, invoke, builtin, Builtin.len_, hT, ← vx, Sem.run_bind, run_underlying hu, goInt]
  · next b o' z len cap tg hb =>
    cases hn
    rw [hb] at vx
    simp only [val] at vx
    cases he : e b with
    | none => simp [he] at vx
    | some y =>
      simp only [he, Option.some.injEq] at vx
      refine .pure r (rv := .int .i64 len) ?_ rfl
      simp [execOp, ho, resolve, hc, hargs, invoke, builtin, Builtin.len_, hT, ← vx, Sem.run_bind, run_underlying hu, goInt]
  · cases hn
theorem ok_indexStr {T : TypeId} {x i : Operand} (hg : Glob P e) (hf : FrR e t a.tmps) (r : Rep e h w) (ho : o.op = .index T x i) (hT : P.underlying T = some .string) {x' i' : Opd} (hx : opdD P x = some x') (hi : opdD P i = some i') (hn : opD D t h (.indexStr x' i') = some nx) : NxOk P e h w (execOp a.eval o) nx := by
  have vx := opd_ok hg hf hx
  have vi := opd_ok hg hf hi
  simp only [opD] at hn
  split at hn
  · next s k hb hk =>
    rw [hb] at vx
    simp only [val, Option.some.injEq] at vx
    obtain ⟨kk, hki⟩ := natOf_val hk vi
    split at hn
    · next c hcc =>
      cases hn
      refine .pure r (rv := .int .u8 c.toNat) ?_ rfl
      have hget : (⟨s.toArray⟩ : ByteArray)[k]? = some c := by
        have hlt := (List.getElem?_eq_some_iff.1 hcc).1
        have hv := (List.getElem?_eq_some_iff.1 hcc).2
        rw [getElem?_pos _ _ (by rw [size_list]; exact hlt), ← hv]
        rfl
      simp [execOp, ho, ← vx, hki, Instr.index, Sem.run_bind, run_underlying hT, asIntOf, hget]
    · cases hn
  · cases hn
theorem bounds_ok {e : Env} {len cap : Nat} {lo hi : Option Opd} {lo' hi' : Option Operand} {isS : Bool} (hlo : ∀ x, lo = some x → ∃ y, lo' = some y ∧ val e (x.ev t) = some (a.eval y)) (hlo0 : lo = none → lo' = none) (hhi : ∀ x, hi = some x → ∃ y, hi' = some y ∧ val e (x.ev t) = some (a.eval y)) (hhi0 : hi = none → hi' = none)
    {l u m : Nat} (hb : boundsD len cap (lo.map (·.ev t)) (hi.map (·.ev t)) none = some (l, u, m)) (cap' : Nat) (hc : cap ≤ cap') : m = cap ∧ l ≤ u ∧ u ≤ cap ∧ (Instr.sliceBounds isS len cap' (lo'.map a.eval) (hi'.map a.eval) none).run P w = .ok (l, u, cap') w := by
  simp only [boundsD] at hb
  cases hh : hi with
  | none =>
    rw [hh] at hb
    rw [hhi0 hh]
    cases hl : lo with
    | none =>
      rw [hl] at hb
      rw [hlo0 hl]
      simp only [Option.map_none] at hb
      split at hb
      · next hle =>
        cases hb
        exact ⟨rfl, hle.1, hle.2.1, by simp [Instr.sliceBounds]⟩
      · cases hb
    | some x =>
      rw [hl] at hb
      obtain ⟨y, hy, hv⟩ := hlo x hl
      rw [hy]
      simp only [Option.map_none, Option.map_some] at hb
      split at hb
      · cases hb
      · next n hn =>
        split at hb
        · next hle =>
          cases hb
          obtain ⟨k, hk⟩ := natOf_val hn hv
          refine ⟨rfl, hle.1, hle.2.1, ?_⟩
          simp [Instr.sliceBounds, Sem.run_bind, hk, run_bound k _ hle.1]
        · cases hb
  | some z =>
    rw [hh] at hb
    obtain ⟨y2, hy2, hv2⟩ := hhi z hh
    rw [hy2]
    cases hl : lo with
    | none =>
      rw [hl] at hb
      rw [hlo0 hl]
      simp only [Option.map_none, Option.map_some] at hb
      split at hb
      · cases hb
      · next n hn =>
        split at hb
        · next hle =>
          cases hb
          obtain ⟨k, hk⟩ := natOf_val hn hv2
          refine ⟨rfl, hle.1, hle.2.1, ?_⟩
          simp [Instr.sliceBounds, Sem.run_bind, hk, run_bound k _ (Nat.le_trans hle.2.1 hc)]
        · cases hb
    | some x =>
      rw [hl] at hb
      obtain ⟨y, hy, hv⟩ := hlo x hl
      rw [hy]
      simp only [Option.map_some] at hb
      split at hb
      · cases hb
      · next n hn =>
        split at hb
        · cases hb
        · next n' hn' =>
          split at hb
          · next hle =>
            cases hb
            obtain ⟨k, hk⟩ := natOf_val hn hv2
            obtain ⟨k', hk'⟩ := natOf_val hn' hv
            refine ⟨rfl, hle.1, hle.2.1, ?_⟩
            simp [Instr.sliceBounds, Sem.run_bind, hk, hk', run_bound k _ (Nat.le_trans hle.2.1 hc), run_bound k' _ hle.1]
          · cases hb
theorem bounds3_ok {e : Env} {len cap : Nat} {lo : Option Opd} {hi mx : Opd} {lo' : Option Operand} {hi' mx' : Operand} {isS : Bool} (hlo : ∀ x, lo = some x → ∃ y, lo' = some y ∧ val e (x.ev t) = some (a.eval y)) (hlo0 : lo = none → lo' = none) (hhi : val e (hi.ev t) = some (a.eval hi')) (hmx : val e (mx.ev t) = some (a.eval mx'))
    {l u m : Nat} (hb : boundsD len cap (lo.map (·.ev t)) (some (hi.ev t)) (some (mx.ev t)) = some (l, u, m)) (cap' : Nat) (hc : cap ≤ cap') : m ≤ cap ∧ l ≤ u ∧ u ≤ m ∧ (Instr.sliceBounds isS len cap' (lo'.map a.eval) (some (a.eval hi')) (some (a.eval mx'))).run P w = .ok (l, u, m) w := by
  simp only [boundsD] at hb
  split at hb
  · cases hb
  · next m' hm =>
    split at hb
    · cases hb
    · next n hn =>
      obtain ⟨k, hk⟩ := natOf_val hn hhi
      obtain ⟨k2, hk2⟩ := natOf_val hm hmx
      cases hl : lo with
      | none =>
        rw [hl] at hb
        rw [hlo0 hl]
        simp only [Option.map_none] at hb
        split at hb
        · next hle =>
          cases hb
          refine ⟨hle.2.2, hle.1, hle.2.1, ?_⟩
          simp [Instr.sliceBounds, Sem.run_bind, hk, hk2, run_bound k _ hle.2.1, run_bound k2 _ (Nat.le_trans hle.2.2 hc)]
        · cases hb
      | some x =>
        rw [hl] at hb
        obtain ⟨y, hy, hv⟩ := hlo x hl
        rw [hy]
        simp only [Option.map_some] at hb
        split at hb
        · cases hb
        · next n' hn' =>
          obtain ⟨k', hk'⟩ := natOf_val hn' hv
          split at hb
          · next hle =>
            cases hb
            refine ⟨hle.2.2, hle.1, hle.2.1, ?_⟩
            simp [Instr.sliceBounds, Sem.run_bind, hk, hk2, hk', run_bound k _ hle.2.1, run_bound k2 _ (Nat.le_trans hle.2.2 hc), run_bound k' _ hle.1]
          · cases hb
end
end Go.Dx
