/- The evaluator, part 6. -/
import Derived.Test.YtfdplefijefeiaaGreatDoorZ5
import Derived.Laws.IdiomStrings
/- D: append (the operation), copy, bytes and strings. -/
namespace Go.Dx
open Go

section
variable {P : Program} {e : Env} {t : Fr} {a : Act} {h : DHeap} {w : World} {o : Oper} {D : DProg} {nx : Nx}

theorem args2 {c : Call} {x y : Operand} (h : c.args.toList = [x, y]) : c.args = #[x, y] := by apply Array.toList_inj.1; simpa using h
theorem args1 {c : Call} {x : Operand} (h : c.args.toList = [x]) : c.args = #[x] := by apply Array.toList_inj.1; simpa using h
theorem ok_append {c : Call} {x y : Operand} {T tx el : TypeId} {i : TypeInfo} {zv : Value} {zd : List DV} (hg : Glob P e) (hf : FrR e t a.tmps) (r : Rep e h w) (ho : o.op = .call c) (hc : c.callee = .builtin .append) (hxs : c.args.toList = [x, y]) (hat : c.argTypes[0]? = some T) (hat1 : c.argTypes[1]? = some tx)
    (hT : P.underlying T = some (.slice el)) (hk : (∃ e', P.underlying tx = some (.slice e')) ∨ P.underlying tx = some .string) (hi : P.info? el = some i) (hz : i.zero = some zv) (hzs : zv.cells.size = i.size)
    {x' y' : Opd} (hx : opdD P x = some x') (hy : opdD P y = some y') (hn : opD D t h (.append i.size i.bytes zd x' y') = some nx) : NxOk P e h w (execOp a.eval o) nx := by
  have vx := opd_ok hg hf hx
  have vy := opd_ok hg hf hy
  simp only [opD] at hn
  split at hn
  · next v h' ha =>
    cases hn
    obtain ⟨e', w', rv, h1, h2, h3⟩ := append_ok (ty := o.type) r vx vy hT hk hi rfl rfl hz hzs ha
    refine ⟨e', w', h1, .inl ⟨rv, ?_, h3⟩⟩
    have hap : (Builtin.append_ c.argTypes o.type #[a.eval x, a.eval y]).run P w = .ok rv w' := by
      rw [← h2]
      unfold Builtin.append_
      rw [hat, hat1]
      rfl
    simp [execOp, ho, resolve, hc, args2 hxs, invoke, builtin, hap]
  · cases hn
theorem ok_lenArr {c : Call} {x : Operand} {T : TypeId} {n : Nat} (hg : Glob P e) (hf : FrR e t a.tmps) (r : Rep e h w) (ho : o.op = .call c) (hc : c.callee = .builtin .len) (hxs : c.args.toList = [x]) (hT : c.argTypes[0]? = some T)
    (hu : (∃ el, P.underlying T = some (.array n el)) ∨ ∃ A el, P.underlying T = some (.pointer A) ∧ P.underlying A = some (.array n el)) (hn : opD D t h (.lenArr n) = some nx) : NxOk P e h w (execOp a.eval o) nx := by
  simp only [opD, Option.some.injEq] at hn
  subst hn
  refine .pure r (rv := .int .i64 n) ?_ rfl
  rcases hu with ⟨el, hu⟩ | ⟨A, el, hu, hA⟩
  · simp [execOp, ho, resolve, hc, args1 hxs, invoke, builtin, Builtin.len_, hT, Sem.run_bind, run_underlying hu, goInt]
  · simp [execOp, ho, resolve, hc, args1 hxs, invoke, builtin, Builtin.len_, hT, Sem.run_bind, run_underlying hu, run_underlying hA, goInt]
theorem ok_capSl {c : Call} {x : Operand} {T el : TypeId} (hg : Glob P e) (hf : FrR e t a.tmps) (r : Rep e h w) (ho : o.op = .call c) (hc : c.callee = .builtin .cap) (hxs : c.args.toList = [x]) (hT : c.argTypes[0]? = some T) (hu : P.underlying T = some (.slice el))
    {x' : Opd} (hx : opdD P x = some x') (hn : opD D t h (.capSl x') = some nx) : NxOk P e h w (execOp a.eval o) nx := by
  have vx := opd_ok hg hf hx
  simp only [opD] at hn
  split at hn
  · next hb =>
    cases hn
    rw [hb] at vx
    simp only [val, Option.some.injEq] at vx
    refine .pure r (rv := .int .i64 0) ?_ rfl
    simp [execOp, ho, resolve, hc, args1 hxs, invoke, builtin, Builtin.cap_, hT, ← vx, Sem.run_bind, run_underlying hu, goInt]
  · next b o' z len cap hb =>
    cases hn
    rw [hb] at vx
    obtain ⟨y, hy, hv⟩ := slice_val vx
    refine .pure r (rv := .int .i64 cap) ?_ rfl
    simp [execOp, ho, resolve, hc, args1 hxs, invoke, builtin, Builtin.cap_, hT, hv, Sem.run_bind, run_underlying hu, goInt]
  · cases hn
theorem ok_copy {c : Call} {x y : Operand} {T el : TypeId} {n : Nat} (hg : Glob P e) (hf : FrR e t a.tmps) (r : Rep e h w) (ho : o.op = .call c) (hc : c.callee = .builtin .copy) (hxs : c.args.toList = [x, y]) (hT : c.argTypes[0]? = some T) (hu : P.underlying T = some (.slice el)) (hs : sizeT P el = some n)
    {x' y' : Opd} (hx : opdD P x = some x') (hy : opdD P y = some y') (hn : opD D t h (.copy n x' y') = some nx) : NxOk P e h w (execOp a.eval o) nx := by
  have vx := opd_ok hg hf hx
  have vy := opd_ok hg hf hy
  simp only [opD] at hn
  split at hn
  · next la lb ha hb =>
    split at hn
    · next cs hcs =>
      -- the source
      have hsrc : ∃ rs, vals e cs = some rs ∧ (Builtin.lenOf (a.eval y)).run P w = .ok lb w ∧ (Builtin.firstCells n (min lb la) (a.eval y)).run P w = .ok rs.toArray w := by
        cases hyv : y'.ev t with
        | nilSlice =>
          rw [hyv] at vy hb hcs
          simp only [lenD, Option.some.injEq] at hb
          simp only [srcD, Option.some.injEq] at hcs
          subst hcs; subst hb
          simp only [val, Option.some.injEq] at vy
          exact ⟨[], rfl, by rw [← vy]; rfl, by rw [← vy]; exact run_firstCells_none ..⟩
        | slice b o' z len cap tg =>
          rw [hyv] at vy hb hcs
          simp only [lenD, Option.some.injEq] at hb
          subst hb
          simp only [srcD] at hcs
          split at hcs
          case isFalse => cases hcs
          next hlc =>
          obtain ⟨q, rs, hq, hv, hr, hlen⟩ := load_cells r hcs
          obtain ⟨q', hq', hvy⟩ := slice_val vy
          rw [hq] at hq'
          cases hq'
          exact ⟨rs, hv, by rw [hvy]; rfl, by rw [hvy]; exact run_firstCells_some w n _ _ len _ rs hlen (cells_at hr hlen hlc)⟩
        | str s =>
          rw [hyv] at vy hb hcs
          simp only [lenD, Option.some.injEq] at hb
          subst hb
          simp only [srcD] at hcs
          split at hcs
          case isFalse => cases hcs
          next hn1 =>
          simp only [Option.some.injEq] at hcs
          subst hcs
          simp only [val, Option.some.injEq] at vy
          have hv : ∀ l : List UInt8, vals e (l.map fun b => DV.int .u8 b.toNat) = some (l.map fun b => Value.int .u8 b.toNat) := fun l => by
            induction l with
            | nil => rfl
            | cons b l ih => exact vals_cons_of rfl ih
          refine ⟨_, hv _, by rw [← vy]; show Result.ok _ _ = _; rw [size_list], ?_⟩
          rw [← vy]
          simp only [Builtin.firstCells]
          show Result.ok _ _ = _
          congr 1
          apply Array.ext'
          simp [ByteArray.data_extract, List.extract_eq_take_drop]
        | _ => rw [hyv] at hb; simp [lenD] at hb
      obtain ⟨rs, hrs, hlen, hfc⟩ := hsrc
      have hmin : Nat.min lb la = min lb la := rfl
      split at hn
      · next hxv =>
        cases hn
        rw [hxv] at vx ha
        simp only [val, Option.some.injEq] at vx
        simp only [lenD, Option.some.injEq] at ha
        subst ha
        refine .pure r (rv := .int .i64 0) ?_ rfl
        simp only [Nat.min_zero] at hfc
        simp [execOp, ho, resolve, hc, args2 hxs, invoke, builtin, Builtin.copy_, hT, ← vx, Sem.run_bind, run_underlying hu, hlen, run_sizeT hs, show Nat.min lb 0 = 0 from Nat.min_zero lb, hfc, goInt]
      · next bl o' z len cap tg hxv =>
        rw [hxv] at vx ha
        simp only [lenD, Option.some.injEq] at ha
        subst ha
        obtain ⟨q, hq, hv⟩ := slice_val vx
        split at hn
        case isFalse => cases hn
        next hlc =>
        split at hn
        · next h' hst =>
          cases hn
          obtain ⟨q', hq', hth, h1, hstep⟩ := store_cells r hrs hst
          rw [hq] at hq'
          cases hq'
          refine ⟨e, _, hstep, .inl ⟨.int .i64 (min lb len : Nat), ?_, rfl⟩⟩
          have hst2 : (storeCells ⟨q.blk, q.base + (if (if tg = true then cap else cap + q.sp) = 0 then z else o'), none⟩ rs).run P w = .ok () (w.setCells q.blk (q.base + o') rs) := by
            by_cases hc0 : (if tg = true then cap else cap + q.sp) = 0
            · have hl0 : len = 0 := by cases tg <;> simp at hc0 <;> omega
              have hr0 : rs = [] := by
                subst hl0
                rw [Nat.min_zero] at hcs
                have hcs0 : cs = [] := by
                  cases hyv : y'.ev t with
                  | nilSlice => rw [hyv] at hcs; simpa [srcD] using hcs.symm
                  | slice b2 o2 z2 l2 c2 t2 =>
                    rw [hyv] at hcs
                    simp only [srcD] at hcs
                    split at hcs
                    case isFalse => cases hcs
                    have := load_cells r hcs
                    obtain ⟨_, rs2, _, hv2, _, hl2⟩ := this
                    exact List.length_eq_zero_iff.1 (by rw [← vals_length hv2, hl2]; simp)
                  | str s => rw [hyv] at hcs; simp only [srcD] at hcs; split at hcs <;> simp at hcs; exact hcs
                  | _ => rw [hyv] at hcs; simp [srcD] at hcs
                subst hcs0
                simp [vals] at hrs
                exact hrs
              subst hr0
              rfl
            · rw [if_neg hc0]
              have := run_storeCells_cells (P := P) q.blk (q.base + o') rs 0 w (fun j hj => by simpa using (hth j hj).1) (fun j hj => by simpa using (hth j hj).2) h1
              rwa [Nat.add_zero] at this
          simp [execOp, ho, resolve, hc, args2 hxs, invoke, builtin, Builtin.copy_, hT, hv, Sem.run_bind, run_underlying hu, hlen, run_sizeT hs, show Nat.min lb len = min lb len from rfl, hfc, hst2, goInt]
        · cases hn
      · cases hn
    · cases hn
  · cases hn
theorem ok_strBytes {s d el : TypeId} {x : Operand} (hg : Glob P e) (hf : FrR e t a.tmps) (r : Rep e h w) (ho : o.op = .convert s d x) (hs : P.underlying s = some .string) (hd : P.underlying d = some (.slice el)) (he : P.underlying el = some (.int .u8)) {x' : Opd} (hx : opdD P x = some x') (hn : opD D t h (.strBytes x') = some nx) : NxOk P e h w (execOp a.eval o) nx := by
  have vx := opd_ok hg hf hx
  simp only [opD] at hn
  split at hn
  · next b hb =>
    cases hn
    rw [hb] at vx
    simp only [val, Option.some.injEq] at vx
    have hr := run_bytes_of_string w s d el ⟨b.toArray⟩ hs hd he
    rw [size_list] at hr
    have hv : ∀ l : List UInt8, vals e (l.map fun b => DV.int .u8 b.toNat) = some (l.map fun b => Value.int .u8 b.toNat) := fun l => by
      induction l with
      | nil => rfl
      | cons b l ih => exact vals_cons_of rfl ih
    have hge := grownCap_ge w b.length 0 el
    have hrow : bytesRow ⟨b.toArray⟩ (grownCap w b.length 0 el) = ((b.map fun (c : UInt8) => Value.int .u8 c.toNat) ++ List.replicate (grownCap w b.length 0 el - b.length) (Value.int .u8 0)).toArray := by
      unfold bytesRow
      apply Array.ext'
      simp [size_list]
    have hsz : (bytesRow ⟨b.toArray⟩ (grownCap w b.length 0 el)).size = grownCap w b.length 0 el := by
      rw [hrow]; simp; omega
    have hst : Step e h w (e.add h.next ⟨w.heap.size, 0, grownCap w b.length 0 el - b.length, 1⟩) (h.new (.cells (b.map fun (c : UInt8) => DV.int .u8 c.toNat) false 1)) (w.drew.alloc (.cells (bytesRow ⟨b.toArray⟩ (grownCap w b.length 0 el)) el ((bytesRow ⟨b.toArray⟩ (grownCap w b.length 0 el)).size, (bytesRow ⟨b.toArray⟩ (grownCap w b.length 0 el)).size + 1))) := by
      refine Step.new r ⟨w.heap.size, 0, _, _⟩ rfl (by simp) rfl rfl rfl (fun B hB => alloc_old w.drew _ hB) ?_
      refine objAt_new (rs := b.map fun (c : UInt8) => Value.int .u8 c.toNat) (more := List.replicate (grownCap w b.length 0 el - b.length) (Value.int .u8 0)) (T := el) (lo := (bytesRow ⟨b.toArray⟩ (grownCap w b.length 0 el)).size) (hi := (bytesRow ⟨b.toArray⟩ (grownCap w b.length 0 el)).size + 1) ?_ ?_ rfl (by simp) ?_
      · exact vals_mono (Env.le_add (r.new _ (Nat.le_refl _)) _) _ _ (hv b)
      · rw [← hrow]; exact alloc_last w.drew _
      · right
        rw [hsz]
        simp
        omega
    refine ⟨_, _, hst, .inl ⟨_, by simp only [execOp, ho, ← vx, Sem.run_bind, hr, Result.andThen_ok]; rfl, ?_⟩⟩
    simp only [val, Env.add, if_true, Bool.false_eq_true, if_false]
    rw [show b.length + (grownCap w b.length 0 el - b.length) = grownCap w b.length 0 el by omega]
    simp
  · cases hn
theorem bytesOf_ok : ∀ {cs : List DV} {l : List UInt8} {rs : List Value}, bytesOfD cs = some l → vals e cs = some rs → rs = l.map fun b => Value.int .u8 b.toNat
  | [], l, rs, h, hv => by simp [bytesOfD] at h; simp [vals] at hv; subst h; subst hv; rfl
  | c :: cs, l, rs, h, hv => by
    obtain ⟨x, xs, rfl, hx, hxs⟩ := vals_cons hv
    unfold bytesOfD at h
    split at h
    · next heq => cases heq
    · next n r heq =>
      cases heq
      split at h
      · next hlt =>
        split at h
        · next l' hl' =>
          cases h
          simp only [val, Option.some.injEq] at hx
          rw [bytesOf_ok hl' hxs, ← hx, List.map_cons]
          have hb : (UInt8.ofNat n).toNat = n := by rw [UInt8.toNat_ofNat']; omega
          rw [hb]
          rfl
        · cases h
      · cases h
    · cases h
theorem ok_bytesStr {s d el : TypeId} {x : Operand} (hg : Glob P e) (hf : FrR e t a.tmps) (r : Rep e h w) (ho : o.op = .convert s d x) (hs : P.underlying s = some (.slice el)) (hd : P.underlying d = some .string) (he : P.underlying el = some (.int .u8)) {x' : Opd} (hx : opdD P x = some x') (hn : opD D t h (.bytesStr x') = some nx) : NxOk P e h w (execOp a.eval o) nx := by
  have vx := opd_ok hg hf hx
  simp only [opD] at hn
  split at hn
  · next hb =>
    cases hn
    rw [hb] at vx
    simp only [val, Option.some.injEq] at vx
    refine .pure r (rv := .string ⟨#[]⟩) ?_ rfl
    simp [execOp, ho, ← vx, Sem.run_bind, run_convert_bytes_string w s d el none 0 0 hs he hd, Conv.bytesToString]
    rfl
  · next b o' z len cap tg hb =>
    rw [hb] at vx
    obtain ⟨y, hy, hv⟩ := slice_val vx
    split at hn
    · next cs hcs =>
      split at hcs
      case isFalse => cases hcs
      next hlc =>
      split at hn
      · next l hl =>
        cases hn
        obtain ⟨y', rs, hy', hvs, hr, hlen⟩ := load_cells r hcs
        rw [hy] at hy'
        cases hy'
        have hrs := bytesOf_ok hl hvs
        have hll : len = l.length := by rw [← hlen, hrs]; simp
        refine .pure r (rv := .string ⟨l.toArray⟩) ?_ rfl
        have hcell := cells_at (tg := tg) (z := z) (sz := 1) hr (by rw [hlen]; omega) hlc
        have := run_convert_bytes_back w s d el ⟨y.blk, y.base + (if (if tg = true then cap else cap + y.sp) = 0 then z else o'), none⟩ (if tg = true then cap else cap + y.sp) l hs he hd (fun j hj => hcell j _ (by rw [hrs]; simp [hj]))
        rw [← hll, ← hv] at this
        simp [execOp, ho, Sem.run_bind, this]
      · cases hn
    · cases hn
  · cases hn
end
end Go.Dx
/- D: maps. -/
namespace Go.Dx
open Go

def keyKind (ks : Bool) (d : TypeDesc) : Prop := if ks then d = .string else ∃ k, d = .int k
theorem bytesBeq (a b : List UInt8) : ((⟨a.toArray⟩ : ByteArray) == ⟨b.toArray⟩) = bytesEq a b := by
  rw [bytesEq_eq]
  show (a.toArray == b.toArray) = _
  by_cases h : a = b
  · subst h; simp
  · rw [beq_false_of_ne h]
    apply beq_false_of_ne
    intro e
    exact h (by simpa using e)
theorem same_ok {e : Env} {ks : Bool} {kind : TypeDesc} (hk : keyKind ks kind) {a b : DV} {x y : Value} (ha : val e a = some x) (hb : val e b = some y) {r : Bool} (h : keyEq ks a b = some r) : Instr.sameNow kind x y = some r ∧ (r = true → x = y ∧ Instr.sameBits 10000 y x = true) := by
  cases a with
  | int k n =>
    cases b with
    | int k' m =>
      simp only [val, Option.some.injEq] at ha hb
      subst ha; subst hb
      simp only [keyEq] at h
      split at h
      · cases h
      · next hks =>
        split at h
        · next hkk =>
          cases h
          subst hkk
          obtain ⟨kk, rfl⟩ : ∃ k, kind = .int k := by simpa [keyKind, hks] using hk
          refine ⟨?_, fun hr => ?_⟩
          · simp only [Instr.sameNow, if_true]
            rfl
          · have hr : n = m := by simpa using hr
            subst hr
            exact ⟨rfl, by rw [show (10000 : Nat) = 9999 + 1 from rfl]; simp [Instr.sameBits]⟩
        · cases h
    | _ => simp [keyEq] at h
  | str s =>
    cases b with
    | str s' =>
      simp only [val, Option.some.injEq] at ha hb
      subst ha; subst hb
      simp only [keyEq] at h
      split at h
      · next hks =>
        cases h
        have : kind = .string := by simpa [keyKind, hks] using hk
        subst this
        refine ⟨?_, fun hr => ?_⟩
        · simp only [Instr.sameNow, bytesBeq]
        · rw [bytesEq_eq] at hr
          have hr : s = s' := by simpa using hr
          subst hr
          exact ⟨rfl, by rw [show (10000 : Nat) = 9999 + 1 from rfl]; simp [Instr.sameBits, bytesBeq, bytesEq_eq]⟩
      · cases h
    | _ => simp [keyEq] at h
  | _ => simp [keyEq] at h

theorem ents_length {e : Env} : ∀ {es : List (DV × DV × Nat)} {ms : List MapEntry}, ents e es = some ms → ms.length = es.length
  | [], ms, h => by simp [ents] at h; rw [h]; rfl
  | (k, v, n) :: es, ms, h => by
    obtain ⟨k', v', es', rfl, _, _, hs⟩ := ents_cons h
    simp [ents_length hs]
theorem ents_append {e : Env} : ∀ {a b : List (DV × DV × Nat)} {x y : List MapEntry}, ents e a = some x → ents e b = some y → ents e (a ++ b) = some (x ++ y)
  | [], b, x, y, h, g => by simp [ents] at h; subst h; simpa using g
  | (k, v, n) :: a, b, x, y, h, g => by
    obtain ⟨k', v', es', rfl, hk, hv, hs⟩ := ents_cons h
    simp [ents, hk, hv, ents_append hs g]
/-- a key that is there, or is not -/
theorem find_ok {e : Env} {ks : Bool} {kind : TypeDesc} (hk : keyKind ks kind) {k : DV} {vk : Value} (hv : val e k = some vk) : ∀ {es : List (DV × DV × Nat)} {ms : List MapEntry} (i0 : Nat) {res : Option (DV × Nat)}, ents e es = some ms → findD ks k es = some res →
    match res with
    | none => Instr.findNow kind vk ms i0 = some none
    | some (v, n) => ∃ i rv key, Instr.findNow kind vk ms i0 = some (some (i0 + i, rv)) ∧ val e v = some rv ∧ ms[i]? = some ⟨key, rv, n⟩ ∧ Instr.sameBits 10000 key vk = true ∧
        (∀ v' rv', val e v' = some rv' → ents e (setD ks k v' es) = some (ms.modify i fun m => { m with key := vk, val := rv' })) ∧ ents e (delD ks k es) = some (ms.eraseIdx i)
  | [], ms, i0, res, he, hf => by
    simp [ents] at he
    simp [findD] at hf
    subst he; subst hf
    rfl
  | (k', v', n) :: es, ms, i0, res, he, hf => by
    obtain ⟨rk, rv, ms', rfl, h1, h2, h3⟩ := ents_cons he
    unfold findD at hf
    split at hf
    · next heq =>
      cases hf
      obtain ⟨hs, ht⟩ := same_ok hk hv h1 heq
      obtain ⟨hkk, hbits⟩ := ht rfl
      refine ⟨0, rv, rk, ?_, h2, rfl, hbits, fun v2 rv2 hv2 => ?_, ?_⟩
      · simp [Instr.findNow, hs]
      · simp only [setD, heq, ents, hv, hv2, h3]
        simp
      · simp only [delD, heq, h3]
        simp
    · next heq =>
      obtain ⟨hs, _⟩ := same_ok hk hv h1 heq
      have ih := find_ok hk hv (i0 + 1) h3 hf
      cases res with
      | none => simpa [Instr.findNow, hs] using ih
      | some p =>
        obtain ⟨v, m⟩ := p
        obtain ⟨i, rv2, key, g1, g2, g3, g4, g5, g6⟩ := ih
        refine ⟨i + 1, rv2, key, ?_, g2, by simpa using g3, g4, fun v2 rv3 hv2 => ?_, ?_⟩
        · simp only [Instr.findNow, hs, g1]
          congr 3
          omega
        · simp only [setD, heq, ents, h1, h2, g5 v2 rv3 hv2]
          simp
        · simp only [delD, heq, ents, h1, h2, g6]
          simp
    · cases hf
end Go.Dx
/- D: operations on maps. -/
namespace Go.Dx
open Go

section
variable {P : Program} {e : Env} {t : Fr} {a : Act} {h : DHeap} {w : World} {o : Oper} {D : DProg} {nx : Nx}

theorem run_checkKey {ks : Bool} {kt : TypeId} {kind : TypeDesc} (hu : P.underlying kt = some kind) (hk : keyKind ks kind) (em : Bool) (v : Value) (w : World) : (Instr.checkKey em 10000 kt v).run P w = .ok () w := by
  rw [show (10000 : Nat) = 9999 + 1 from rfl]
  unfold Instr.checkKey
  rw [Sem.run_bind, run_underlying hu]
  cases ks with
  | true =>
    obtain rfl : kind = .string := (by simpa [keyKind] using hk)
    cases v <;> rfl
  | false =>
    obtain ⟨k, rfl⟩ : ∃ k, kind = .int k := (by simpa [keyKind] using hk)
    cases v <;> rfl
theorem run_findKey {kt : TypeId} {kind : TypeDesc} (hu : P.underlying kt = some kind) {vk : Value} {ms : List MapEntry} {q : Option (Nat × Value)} (hf : Instr.findNow kind vk ms 0 = some q) (w : World) : (Instr.findKey kt vk ms).run P w = .ok q w := by
  unfold Instr.findKey
  rw [Sem.run_bind, run_underlying hu]
  show Sem.run P (match Instr.findNow kind vk ms 0 with | some r => pure r | none => _) w = _
  rw [hf]
  rfl
theorem map_val {r : Nat} {v : Value} (hv : val e (.map r) = some v) : ∃ x, e r = some x ∧ v = .map (some x.blk) := by
  cases hb : e r with
  | none => simp [val, hb] at hv
  | some x => simp only [val, hb, Option.some.injEq] at hv; exact ⟨x, rfl, hv.symm⟩
theorem map_obj (r : Rep e h w) {m : Nat} {es : List (DV × DV × Nat)} {cl : Nat} (hg : h.get m = some (.map es cl)) : ∃ x ms, e m = some x ∧ ents e es = some ms ∧ w.heap[x.blk]? = some (.map ms.toArray cl) := by
  obtain ⟨x, hx, ms, h1, h2⟩ := r.obj m _ hg
  exact ⟨x, ms, hx, h1, h2⟩
theorem run_getMap {B : Nat} {ms : Array MapEntry} {cl : Nat} (hb : w.heap[B]? = some (.map ms cl)) : (getObj B).run P w = .ok (.map ms cl) w := by
  simp [getObj, Sem.run, hb]
theorem run_setMap {B : Nat} {o o' : Obj} (hb : w.heap[B]? = some o) (hn : ∀ a b c, o ≠ .cells a b c) : (setObj B o').run P w = .ok () { w with heap := w.heap.setIfInBounds B o' } := by
  simp only [setObj, Sem.run, hb]
theorem setObj_step (r : Rep e h w) {m : Nat} {x : Ent} {o o' : DObj} {ob' : Obj} (hg : h.get m = some o) (hro : o.ro = false) (hro' : o'.ro = false) (hx : e m = some x) (hobj : objAt e { w with heap := w.heap.setIfInBounds x.blk ob' } x o') :
    Step e h w e (h.put m o') { w with heap := w.heap.setIfInBounds x.blk ob' } :=
  Step.put r hg hro hro' hx (by simp) rfl rfl rfl (fun B hB => by
    show (w.heap.setIfInBounds x.blk ob')[B]? = _
    rw [Array.getElem?_setIfInBounds_ne (fun e => hB e.symm)]) hobj
theorem setObj_at {B : Nat} (hlt : B < w.heap.size) (ob' : Obj) : ({ w with heap := w.heap.setIfInBounds B ob' } : World).heap[B]? = some ob' := by
  show (w.heap.setIfInBounds B ob')[B]? = _
  rw [Array.getElem?_setIfInBounds_self_of_lt hlt]

theorem put_map (r : Rep e h w) {rr : Nat} {x : Ent} {es es' : List (DV × DV × Nat)} {ms' : List MapEntry} {cl cl' : Nat} (hgr : h.get rr = some (.map es cl)) (hx : e rr = some x) (hms : ents e es' = some ms') (arr : Array MapEntry) (ha : arr = ms'.toArray) :
    Step e h w e (h.put rr (.map es' cl')) { w with heap := w.heap.setIfInBounds x.blk (.map arr cl') } :=
  setObj_step r hgr rfl rfl hx ⟨ms', hms, by rw [← ha]; exact setObj_at (r.lt rr x hx) _⟩
theorem mapFind_ok {T kt el : TypeId} {ks cok : Bool} {kind : TypeDesc} {z m k : DV} {vm vk zv : Value} {res : Option (DV × Nat)} (r : Rep e h w) (hT : P.underlying T = some (.map kt el)) (hu : P.underlying kt = some kind) (hk : keyKind ks kind) (hm : val e m = some vm) (hkk : val e k = some vk) (hz1 : (zeroValue el).run P w = .ok zv w) (hz2 : val e z = some zv)
    (hf : mapFind h ks m k = some res) : ∃ rv, (Instr.lookup T vm vk cok).run P w = .ok (if cok then .tuple #[rv, .bool res.isSome] else rv) w ∧ val e (foundOr z res) = some rv := by
  cases m with
  | nilMap =>
    simp only [mapFind, Option.some.injEq] at hf
    subst hf
    simp only [val, Option.some.injEq] at hm
    refine ⟨zv, ?_, hz2⟩
    have hfk := run_findKey (P := P) hu (vk := vk) (ms := []) (q := none) rfl w
    simp [Instr.lookup, ← hm, Sem.run_bind, run_underlying hT, run_checkKey hu hk, hfk, hz1]
  | map rr =>
    obtain ⟨x, hx, hv⟩ := map_val hm
    simp only [mapFind] at hf
    split at hf
    · next es cl hgr =>
      obtain ⟨x', ms, hx', hms, hb⟩ := map_obj r hgr
      rw [hx] at hx'
      cases hx'
      have hfo := find_ok hk hkk 0 hms hf
      cases res with
      | none =>
        refine ⟨zv, ?_, hz2⟩
        have hfk := run_findKey (P := P) hu hfo w
        simp [Instr.lookup, hv, Sem.run_bind, run_underlying hT, run_getMap hb, run_checkKey hu hk, hfk, hz1]
      | some p =>
        obtain ⟨v, n⟩ := p
        obtain ⟨i, rv, key, h1, h2, h3, _⟩ := hfo
        rw [Nat.zero_add] at h1
        refine ⟨rv, ?_, h2⟩
        have hfk := run_findKey (P := P) hu h1 w
        simp [Instr.lookup, hv, Sem.run_bind, run_underlying hT, run_getMap hb, run_checkKey hu hk, hfk]
    · cases hf
  | _ => simp [mapFind] at hf
theorem ok_lookup {T kt el : TypeId} {m k : Operand} {cok ks : Bool} {kind : TypeDesc} {z : DV} (hg : Glob P e) (hf : FrR e t a.tmps) (r : Rep e h w) (ho : o.op = .lookup T m k cok) (hT : P.underlying T = some (.map kt el)) (hu : P.underlying kt = some kind) (hk : keyKind ks kind) (hz : zeroT P el = some z)
    {m' k' : Opd} (hm : opdD P m = some m') (hkk : opdD P k = some k') (hn : opD D t h (.lookup ks z m' k' cok) = some nx) : NxOk P e h w (execOp a.eval o) nx := by
  obtain ⟨zv, hz1, hz2⟩ := run_zeroT hz e w
  simp only [opD] at hn
  split at hn
  · cases hn
  next res hres =>
  cases hn
  obtain ⟨rv, h1, h2⟩ := mapFind_ok (cok := cok) r hT hu hk (opd_ok hg hf hm) (opd_ok hg hf hkk) hz1 hz2 hres
  cases cok with
  | true =>
    refine .pure r (rv := .tuple #[rv, .bool res.isSome]) (by simp [execOp, ho, Sem.run_bind, h1]) ?_
    simp only [if_true, val, vals_cons_of h2 (show vals e [.bool res.isSome] = some [.bool res.isSome] from rfl)]
  | false =>
    refine .pure r (rv := rv) (by simp [execOp, ho, Sem.run_bind, h1]) ?_
    simpa using h2
theorem ok_mapUpdate {T kt el : TypeId} {m k v : Operand} {ks : Bool} {kind : TypeDesc} (hg : Glob P e) (hf : FrR e t a.tmps) (r : Rep e h w) (ho : o.op = .mapUpdate T m k v ∨ o.op = .insert T m k v) (hT : P.underlying T = some (.map kt el)) (hu : P.underlying kt = some kind) (hk : keyKind ks kind)
    {m' k' v' : Opd} (hm : opdD P m = some m') (hkk : opdD P k = some k') (hv : opdD P v = some v') (hn : opD D t h (.mapUpdate ks m' k' v') = some nx) : NxOk P e h w (execOp a.eval o) nx := by
  have vm := opd_ok hg hf hm
  have vk := opd_ok hg hf hkk
  have vv := opd_ok hg hf hv
  have hx : execOp a.eval o = (do Instr.mapUpdate T (a.eval m) (a.eval k) (a.eval v); pure .skip) := by rcases ho with ho | ho <;> simp [execOp, ho]
  rw [hx]
  simp only [opD] at hn
  split at hn
  · next rr hmv =>
    rw [hmv] at vm
    obtain ⟨x, hx, hvm⟩ := map_val vm
    split at hn
    · next es cl hgr =>
      obtain ⟨x', ms, hx', hms, hb⟩ := map_obj r hgr
      rw [hx] at hx'
      cases hx'
      have hlt := r.lt rr x hx
      split at hn
      · next p hfd =>
        cases hn
        have hfo := find_ok hk vk 0 hms hfd
        obtain ⟨v0, n0⟩ := p
        obtain ⟨i, rv, key, h1, h2, h3, h4, h5, h6⟩ := hfo
        rw [Nat.zero_add] at h1
        have hfk := run_findKey (P := P) hu h1 w
        refine ⟨e, _, put_map r hgr hx (h5 _ _ vv) (ms.toArray.modify i fun m => { m with key := a.eval k, val := a.eval v }) (by simp), .inr ⟨?_, rfl⟩⟩
        have hkt : Instr.keyThatStays key (a.eval k) = pure (a.eval k) := by unfold Instr.keyThatStays; rw [if_pos h4]
        simp [Instr.mapUpdate, hvm, Sem.run_bind, run_underlying hT, run_getMap hb, run_checkKey hu hk, hfk, h3, hkt]
        rw [run_setMap hb (fun _ _ _ => by simp)]
        simp
      · next hfd =>
        cases hn
        have hfo := find_ok hk vk 0 hms hfd
        have hfk := run_findKey (P := P) hu hfo w
        refine ⟨e, _, put_map r hgr hx (ents_append hms (show ents e [(k'.ev t, v'.ev t, cl)] = some [⟨a.eval k, a.eval v, cl⟩] by simp [ents, vk, vv])) (ms.toArray.push ⟨a.eval k, a.eval v, cl⟩) (by simp), .inr ⟨?_, rfl⟩⟩
        simp [Instr.mapUpdate, hvm, Sem.run_bind, run_underlying hT, run_getMap hb, run_checkKey hu hk, hfk]
        rw [run_setMap hb (fun _ _ _ => by simp)]
        simp
      · cases hn
    · cases hn
  · cases hn
end
end Go.Dx
/- D: further operations on maps; iteration. -/
namespace Go.Dx
open Go

section
variable {P : Program} {e : Env} {t : Fr} {a : Act} {h : DHeap} {w : World} {o : Oper} {D : DProg} {nx : Nx}

theorem ok_lenMap {c : Call} {x : Operand} {T kt el : TypeId} (hg : Glob P e) (hf : FrR e t a.tmps) (r : Rep e h w) (ho : o.op = .call c) (hc : c.callee = .builtin .len) (hxs : c.args.toList = [x]) (hT : c.argTypes[0]? = some T) (hu : P.underlying T = some (.map kt el))
    {x' : Opd} (hx : opdD P x = some x') (hn : opD D t h (.lenMap x') = some nx) : NxOk P e h w (execOp a.eval o) nx := by
  have vx := opd_ok hg hf hx
  simp only [opD] at hn
  split at hn
  · next hb =>
    cases hn
    rw [hb] at vx
    simp only [val, Option.some.injEq] at vx
    refine .pure r (rv := .int .i64 0) ?_ rfl
    simp [execOp, ho, resolve, hc, args1 hxs, invoke, builtin, Builtin.len_, hT, ← vx, Sem.run_bind, run_underlying hu, goInt]
  · next rr hb =>
    rw [hb] at vx
    obtain ⟨y, hy, hv⟩ := map_val vx
    split at hn
    · next es cl hgr =>
      cases hn
      obtain ⟨y', ms, hy', hms, hbk⟩ := map_obj r hgr
      rw [hy] at hy'
      cases hy'
      refine .pure r (rv := .int .i64 es.length) ?_ rfl
      simp [execOp, ho, resolve, hc, args1 hxs, invoke, builtin, Builtin.len_, hT, hv, Sem.run_bind, run_underlying hu, goInt, run_getMap hbk, ents_length hms]
    · cases hn
  · cases hn
theorem ok_delete {c : Call} {m k : Operand} {T kt el : TypeId} {ks : Bool} {kind : TypeDesc} (hg : Glob P e) (hf : FrR e t a.tmps) (r : Rep e h w) (ho : o.op = .call c) (hc : c.callee = .builtin .delete) (hxs : c.args.toList = [m, k]) (hat : c.argTypes[0]? = some T) (hT : P.underlying T = some (.map kt el)) (hu : P.underlying kt = some kind) (hk : keyKind ks kind)
    {m' k' : Opd} (hm : opdD P m = some m') (hkk : opdD P k = some k') (hn : opD D t h (.delete ks m' k') = some nx) : NxOk P e h w (execOp a.eval o) nx := by
  have vm := opd_ok hg hf hm
  have vk := opd_ok hg hf hkk
  simp only [opD] at hn
  split at hn
  · next hb =>
    cases hn
    rw [hb] at vm
    simp only [val, Option.some.injEq] at vm
    refine .pure r (rv := .tuple #[]) ?_ rfl
    simp [execOp, ho, resolve, hc, args2 hxs, invoke, builtin, Builtin.delete_, hat, ← vm, Sem.run_bind, run_underlying hT, run_checkKey hu hk]
  · next rr hb =>
    rw [hb] at vm
    obtain ⟨x, hx, hv⟩ := map_val vm
    split at hn
    · next es cl hgr =>
      obtain ⟨x', ms, hx', hms, hbk⟩ := map_obj r hgr
      rw [hx] at hx'
      cases hx'
      split at hn
      · next res hfd =>
        cases hn
        have hfo := find_ok hk vk 0 hms hfd
        cases res with
        | none =>
          have hfk := run_findKey (P := P) hu hfo w
          have hdel : delD ks (k'.ev t) es = es := by
            clear hfo hfk hms hbk hgr
            induction es with
            | nil => rfl
            | cons p es ih =>
              obtain ⟨k1, v1, n1⟩ := p
              unfold findD at hfd
              split at hfd
              · cases hfd
              · next heq => simp only [delD, heq, ih hfd]
              · cases hfd
          rw [hdel]
          refine ⟨e, _, put_map r hgr hx hms ms.toArray rfl, .inl ⟨.tuple #[], ?_, rfl⟩⟩
          simp [execOp, ho, resolve, hc, args2 hxs, invoke, builtin, Builtin.delete_, hat, hv, Sem.run_bind, run_underlying hT, run_checkKey hu hk, run_getMap hbk, hfk]
          rw [run_setMap hbk (fun _ _ _ => by simp)]
          simp
        | some p =>
          obtain ⟨v0, n0⟩ := p
          obtain ⟨i, rv, key, h1, h2, h3, h4, h5, h6⟩ := hfo
          rw [Nat.zero_add] at h1
          have hfk := run_findKey (P := P) hu h1 w
          refine ⟨e, _, put_map r hgr hx h6 (ms.toArray.eraseIdxIfInBounds i) (by
            have hlt := (List.getElem?_eq_some_iff.1 h3).1
            simp [Array.eraseIdxIfInBounds, hlt]), .inl ⟨.tuple #[], ?_, rfl⟩⟩
          simp [execOp, ho, resolve, hc, args2 hxs, invoke, builtin, Builtin.delete_, hat, hv, Sem.run_bind, run_underlying hT, run_checkKey hu hk, run_getMap hbk, hfk]
          rw [run_setMap hbk (fun _ _ _ => by simp)]
          simp
      · cases hn
    · cases hn
  · cases hn
theorem ok_clearMap {c : Call} {m : Operand} {T kt el : TypeId} (hg : Glob P e) (hf : FrR e t a.tmps) (r : Rep e h w) (ho : o.op = .call c) (hc : c.callee = .builtin .clear) (hxs : c.args.toList = [m]) (hat : c.argTypes[0]? = some T) (hT : P.underlying T = some (.map kt el))
    {m' : Opd} (hm : opdD P m = some m') (hn : opD D t h (.clearMap m') = some nx) : NxOk P e h w (execOp a.eval o) nx := by
  have vm := opd_ok hg hf hm
  simp only [opD] at hn
  split at hn
  · next hb =>
    cases hn
    rw [hb] at vm
    simp only [val, Option.some.injEq] at vm
    refine .pure r (rv := .tuple #[]) ?_ rfl
    simp [execOp, ho, resolve, hc, args1 hxs, invoke, builtin, Builtin.clear_, hat, ← vm, Sem.run_bind, run_underlying hT]
  · next rr hb =>
    rw [hb] at vm
    obtain ⟨x, hx, hv⟩ := map_val vm
    split at hn
    · next es cl hgr =>
      obtain ⟨x', ms, hx', hms, hbk⟩ := map_obj r hgr
      rw [hx] at hx'
      cases hx'
      cases hn
      refine ⟨e, _, put_map r hgr hx (show ents e [] = some [] from rfl) #[] rfl, .inl ⟨.tuple #[], ?_, rfl⟩⟩
      simp [execOp, ho, resolve, hc, args1 hxs, invoke, builtin, Builtin.clear_, hat, hv, Sem.run_bind, run_underlying hT, run_getMap hbk]
      rw [run_setMap hbk (fun _ _ _ => by simp)]
      simp
    · cases hn
  · cases hn
/-- a new object that is no row of cells -/
theorem new_obj (r : Rep e h w) {o' : DObj} {ob : Obj} (hobj : ∀ e' : Env, Env.le e e' → ∀ w' : World, w'.heap[w.heap.size]? = some ob → objAt e' w' ⟨w.heap.size, 0, 0, 0⟩ o') : Step e h w (e.add h.next ⟨w.heap.size, 0, 0, 0⟩) (h.new o') (w.alloc ob) :=
  Step.new r ⟨w.heap.size, 0, 0, 0⟩ rfl (by simp) rfl rfl rfl (fun B hB => alloc_old w _ hB) (hobj _ (Env.le_add (r.new _ (Nat.le_refl _)) _) _ (alloc_last w _))
theorem ok_rangeStr {T : TypeId} {x : Operand} (hg : Glob P e) (hf : FrR e t a.tmps) (r : Rep e h w) (ho : o.op = .range T x) (hT : P.underlying T = some .string) {x' : Opd} (hx : opdD P x = some x') (hn : opD D t h (.rangeStr x') = some nx) : NxOk P e h w (execOp a.eval o) nx := by
  have vx := opd_ok hg hf hx
  simp only [opD] at hn
  split at hn
  · next s hb =>
    cases hn
    rw [hb] at vx
    simp only [val, Option.some.injEq] at vx
    refine ⟨_, _, new_obj r (o' := .strIter s 0) (ob := .stringIter ⟨s.toArray⟩ 0) (fun e' _ w' hw => ⟨rfl, hw⟩), .inl ⟨.pointer (some ⟨w.heap.size, 0, none⟩), ?_, add_ptr ..⟩⟩
    simp [execOp, ho, Instr.range, ← vx, Sem.run_bind, run_underlying hT]
  · cases hn
theorem ok_rangeMap {T kt el : TypeId} {x : Operand} (hg : Glob P e) (hf : FrR e t a.tmps) (r : Rep e h w) (ho : o.op = .range T x) (hT : P.underlying T = some (.map kt el)) {x' : Opd} (hx : opdD P x = some x') (hn : opD D t h (.rangeMap x') = some nx) : NxOk P e h w (execOp a.eval o) nx := by
  have vx := opd_ok hg hf hx
  simp only [opD] at hn
  split at hn
  · next hb =>
    cases hn
    rw [hb] at vx
    simp only [val, Option.some.injEq] at vx
    refine ⟨_, _, new_obj r (o' := .mapIter none 0 [] 0) (ob := .mapIter none 0 #[] 0) (fun e' _ w' hw => ⟨rfl, none, rfl, hw⟩), .inl ⟨.pointer (some ⟨w.heap.size, 0, none⟩), ?_, add_ptr ..⟩⟩
    simp [execOp, ho, Instr.range, ← vx, Sem.run_bind, run_underlying hT]
  · next m hb =>
    rw [hb] at vx
    obtain ⟨y, hy, hv⟩ := map_val vx
    split at hn
    · next es cl hgr =>
      cases hn
      obtain ⟨y', ms, hy', hms, hbk⟩ := map_obj r hgr
      rw [hy] at hy'
      cases hy'
      refine ⟨_, _, new_obj r (o' := .mapIter (some m) cl [] cl) (ob := .mapIter (some y.blk) cl #[] cl) (fun e' hle w' hw => ⟨rfl, some y.blk, by simp [mref, hle _ _ hy], hw⟩), .inl ⟨.pointer (some ⟨w.heap.size, 0, none⟩), ?_, add_ptr ..⟩⟩
      simp [execOp, ho, Instr.range, hv, Sem.run_bind, run_underlying hT, run_getMap hbk]
    · cases hn
  · cases hn
end
end Go.Dx
