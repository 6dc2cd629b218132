/- D: append (the operation), copy, bytes and strings. -/
import Derived.Test.YtfdplefijefeiaaGreatDoorZd
import Derived.Laws.IdiomStrings
namespace Go.Dx
open Go

section
variable {P : Program} {e : Env} {t : Fr} {a : Act} {h : DHeap} {w : World} {o : Oper} {D : DProg} {nx : Nx}

theorem args2 {c : Call} {x y : Operand} (h : c.args.toList = [x, y]) : c.args = #[x, y] := by apply Array.toList_inj.1; simpa using h
theorem args1 {c : Call} {x : Operand} (h : c.args.toList = [x]) : c.args = #[x] := by apply Array.toList_inj.1; simpa using h
theorem ok_append {c : Call} {x y : Operand} {T tx el : TypeId} {i : TypeInfo} {zv : Value} {zd : List DV} (hg : Glob P e) (hf : FrR e t a.tmps) (r : Rep e h w) (ho : o.op = .call c) (hc : c.callee = .builtin .append) (hxs : c.args.toList = [x, y]) (hat : c.argTypes[0]? = some T) (hat1 : c.argTypes[1]? = some tx)
    (hT : P.underlying T = some (.slice el)) (hk : (∃ e', P.underlying tx = some (.slice e')) ∨ P.underlying tx = some .string) (hi : P.info? el = some i) (hz : i.zero = some zv) (hzs : zv.cells.size = i.size)
    {x' y' : Opd} (hx : opdD P x = some x') (hy : opdD P y = some y') (hn : opD D t h (.append i.size i.bytes zd x' y') = some nx) : NxOk P e h w (execOp a.eval o) nx := by
  have vx := opd_ok hg hf hx
  have vy := opd_ok hg hf hy
  simp only [opD] at hn
  split at hn
  · next v h' ha =>
    cases hn
    obtain ⟨e', w', rv, h1, h2, h3⟩ := append_ok (ty := o.type) r vx vy hT hk hi rfl rfl hz hzs ha
    refine ⟨e', w', h1, .inl ⟨rv, ?_, h3⟩⟩
    have hap : (Builtin.append_ c.argTypes o.type #[a.eval x, a.eval y]).run P w = .ok rv w' := by
      rw [← h2]
      unfold Builtin.append_
      rw [hat, hat1]
      rfl
    simp [execOp, ho, resolve, hc, args2 hxs, invoke, builtin, hap]
  · cases hn
theorem ok_lenArr {c : Call} {x : Operand} {T : TypeId} {n : Nat} (hg : Glob P e) (hf : FrR e t a.tmps) (r : Rep e h w) (ho : o.op = .call c) (hc : c.callee = .builtin .len) (hxs : c.args.toList = [x]) (hT : c.argTypes[0]? = some T)
    (hu : (∃ el, P.underlying T = some (.array n el)) ∨ ∃ A el, P.underlying T = some (.pointer A) ∧ P.underlying A = some (.array n el)) (hn : opD D t h (.lenArr n) = some nx) : NxOk P e h w (execOp a.eval o) nx := by
  simp only [opD, Option.some.injEq] at hn
  subst hn
  refine .pure r (rv := .int .i64 n) ?_ rfl
  rcases hu with ⟨el, hu⟩ | ⟨A, el, hu, hA⟩
  · simp [execOp, ho, resolve, hc, args1 hxs, invoke, builtin, Builtin.len_, hT, Sem.run_bind, run_underlying hu, goInt]
  · simp [execOp, ho, resolve, hc, args1 hxs, invoke, builtin, Builtin.len_, hT, Sem.run_bind, run_underlying hu, run_underlying hA, goInt]
theorem ok_capSl {c : Call} {x : Operand} {T el : TypeId} (hg : Glob P e) (hf : FrR e t a.tmps) (r : Rep e h w) (ho : o.op = .call c) (hc : c.callee = .builtin .cap) (hxs : c.args.toList = [x]) (hT : c.argTypes[0]? = some T) (hu : P.underlying T = some (.slice el))
    {x' : Opd} (hx : opdD P x = some x') (hn : opD D t h (.capSl x') = some nx) : NxOk P e h w (execOp a.eval o) nx := by
  have vx := opd_ok hg hf hx
  simp only [opD] at hn
  split at hn
  · next hb =>
    cases hn
    rw [hb] at vx
    simp only [val, Option.some.injEq] at vx
    refine .pure r (rv := .int .i64 0) ?_ rfl
    simp [execOp, ho, resolve, hc, args1 hxs, invoke, builtin, Builtin.cap_, hT, ← vx, Sem.run_bind, run_underlying hu, goInt]
  · next b o' z len cap hb =>
    cases hn
    rw [hb] at vx
    obtain ⟨y, hy, hv⟩ := slice_val vx
    refine .pure r (rv := .int .i64 cap) ?_ rfl
    simp [execOp, ho, resolve, hc, args1 hxs, invoke, builtin, Builtin.cap_, hT, hv, Sem.run_bind, run_underlying hu, goInt]
  · cases hn
theorem ok_copy {c : Call} {x y : Operand} {T el : TypeId} {n : Nat} (hg : Glob P e) (hf : FrR e t a.tmps) (r : Rep e h w) (ho : o.op = .call c) (hc : c.callee = .builtin .copy) (hxs : c.args.toList = [x, y]) (hT : c.argTypes[0]? = some T) (hu : P.underlying T = some (.slice el)) (hs : sizeT P el = some n)
    {x' y' : Opd} (hx : opdD P x = some x') (hy : opdD P y = some y') (hn : opD D t h (.copy n x' y') = some nx) : NxOk P e h w (execOp a.eval o) nx := by
  have vx := opd_ok hg hf hx
  have vy := opd_ok hg hf hy
  simp only [opD] at hn
  split at hn
  · next la lb ha hb =>
    split at hn
    · next cs hcs =>
      -- the source
      have hsrc : ∃ rs, vals e cs = some rs ∧ (Builtin.lenOf (a.eval y)).run P w = .ok lb w ∧ (Builtin.firstCells n (min lb la) (a.eval y)).run P w = .ok rs.toArray w := by
        cases hyv : y'.ev t with
        | nilSlice =>
          rw [hyv] at vy hb hcs
          simp only [lenD, Option.some.injEq] at hb
          simp only [srcD, Option.some.injEq] at hcs
          subst hcs; subst hb
          simp only [val, Option.some.injEq] at vy
          exact ⟨[], rfl, by rw [← vy]; rfl, by rw [← vy]; exact run_firstCells_none ..⟩
        | slice b o' z len cap tg =>
          rw [hyv] at vy hb hcs
          simp only [lenD, Option.some.injEq] at hb
          subst hb
          simp only [srcD] at hcs
          split at hcs
          case isFalse => cases hcs
          next hlc =>
          obtain ⟨q, rs, hq, hv, hr, hlen⟩ := load_cells r hcs
          obtain ⟨q', hq', hvy⟩ := slice_val vy
          rw [hq] at hq'
          cases hq'
          exact ⟨rs, hv, by rw [hvy]; rfl, by rw [hvy]; exact run_firstCells_some w n _ _ len _ rs hlen (cells_at hr hlen hlc)⟩
        | str s =>
          rw [hyv] at vy hb hcs
          simp only [lenD, Option.some.injEq] at hb
          subst hb
          simp only [srcD] at hcs
          split at hcs
          case isFalse => cases hcs
          next hn1 =>
          simp only [Option.some.injEq] at hcs
          subst hcs
          simp only [val, Option.some.injEq] at vy
          have hv : ∀ l : List UInt8, vals e (l.map fun b => DV.int .u8 b.toNat) = some (l.map fun b => Value.int .u8 b.toNat) := fun l => by
            induction l with
            | nil => rfl
            | cons b l ih => exact vals_cons_of rfl ih
          refine ⟨_, hv _, by rw [← vy]; show Result.ok _ _ = _; rw [size_list], ?_⟩
          rw [← vy]
          simp only [Builtin.firstCells]
          show Result.ok _ _ = _
          congr 1
          apply Array.ext'
          simp [ByteArray.data_extract, List.extract_eq_take_drop]
        | _ => rw [hyv] at hb; simp [lenD] at hb
      obtain ⟨rs, hrs, hlen, hfc⟩ := hsrc
      have hmin : Nat.min lb la = min lb la := rfl
      split at hn
      · next hxv =>
        cases hn
        rw [hxv] at vx ha
        simp only [val, Option.some.injEq] at vx
        simp only [lenD, Option.some.injEq] at ha
        subst ha
        refine .pure r (rv := .int .i64 0) ?_ rfl
        simp only [Nat.min_zero] at hfc
        simp [execOp, ho, resolve, hc, args2 hxs, invoke, builtin, Builtin.copy_, hT, ← vx, Sem.run_bind, run_underlying hu, hlen, run_sizeT hs, show Nat.min lb 0 = 0 from Nat.min_zero lb, hfc, goInt]
      · next bl o' z len cap tg hxv =>
        rw [hxv] at vx ha
        simp only [lenD, Option.some.injEq] at ha
        subst ha
        obtain ⟨q, hq, hv⟩ := slice_val vx
        split at hn
        case isFalse => cases hn
        next hlc =>
        split at hn
        · next h' hst =>
          cases hn
          obtain ⟨q', hq', hth, h1, hstep⟩ := store_cells r hrs hst
          rw [hq] at hq'
          cases hq'
          refine ⟨e, _, hstep, .inl ⟨.int .i64 (min lb len : Nat), ?_, rfl⟩⟩
          have hst2 : (storeCells ⟨q.blk, q.base + (if (if tg = true then cap else cap + q.sp) = 0 then z else o'), none⟩ rs).run P w = .ok () (w.setCells q.blk (q.base + o') rs) := by
            by_cases hc0 : (if tg = true then cap else cap + q.sp) = 0
            · have hl0 : len = 0 := by cases tg <;> simp at hc0 <;> omega
              have hr0 : rs = [] := by
                subst hl0
                rw [Nat.min_zero] at hcs
                have hcs0 : cs = [] := by
                  cases hyv : y'.ev t with
                  | nilSlice => rw [hyv] at hcs; simpa [srcD] using hcs.symm
                  | slice b2 o2 z2 l2 c2 t2 =>
                    rw [hyv] at hcs
                    simp only [srcD] at hcs
                    split at hcs
                    case isFalse => cases hcs
                    have := load_cells r hcs
                    obtain ⟨_, rs2, _, hv2, _, hl2⟩ := this
                    exact List.length_eq_zero_iff.1 (by rw [← vals_length hv2, hl2]; simp)
                  | str s => rw [hyv] at hcs; simp only [srcD] at hcs; split at hcs <;> simp at hcs; exact hcs
                  | _ => rw [hyv] at hcs; simp [srcD] at hcs
                subst hcs0
                simp [vals] at hrs
                exact hrs
              subst hr0
              rfl
            · rw [if_neg hc0]
              have := run_storeCells_cells (P := P) q.blk (q.base + o') rs 0 w (fun j hj => by simpa using (hth j hj).1) (fun j hj => by simpa using (hth j hj).2) h1
              rwa [Nat.add_zero] at this
          simp [execOp, ho, resolve, hc, args2 hxs, invoke, builtin, Builtin.copy_, hT, hv, Sem.run_bind, run_underlying hu, hlen, run_sizeT hs, show Nat.min lb len = min lb len from rfl, hfc, hst2, goInt]
        · cases hn
      · cases hn
    · cases hn
  · cases hn
theorem ok_strBytes {s d el : TypeId} {x : Operand} (hg : Glob P e) (hf : FrR e t a.tmps) (r : Rep e h w) (ho : o.op = .convert s d x) (hs : P.underlying s = some .string) (hd : P.underlying d = some (.slice el)) (he : P.underlying el = some (.int .u8)) {x' : Opd} (hx : opdD P x = some x') (hn : opD D t h (.strBytes x') = some nx) : NxOk P e h w (execOp a.eval o) nx := by
  have vx := opd_ok hg hf hx
  simp only [opD] at hn
  split at hn
  · next b hb =>
    cases hn
    rw [hb] at vx
    simp only [val, Option.some.injEq] at vx
    have hr := run_bytes_of_string w s d el ⟨b.toArray⟩ hs hd he
    rw [size_list] at hr
    have hv : ∀ l : List UInt8, vals e (l.map fun b => DV.int .u8 b.toNat) = some (l.map fun b => Value.int .u8 b.toNat) := fun l => by
      induction l with
      | nil => rfl
      | cons b l ih => exact vals_cons_of rfl ih
    have hge := grownCap_ge w b.length 0 el
    have hrow : bytesRow ⟨b.toArray⟩ (grownCap w b.length 0 el) = ((b.map fun (c : UInt8) => Value.int .u8 c.toNat) ++ List.replicate (grownCap w b.length 0 el - b.length) (Value.int .u8 0)).toArray := by
      unfold bytesRow
      apply Array.ext'
      simp [size_list]
    have hsz : (bytesRow ⟨b.toArray⟩ (grownCap w b.length 0 el)).size = grownCap w b.length 0 el := by
      rw [hrow]; simp; omega
    have hst : Step e h w (e.add h.next ⟨w.heap.size, 0, grownCap w b.length 0 el - b.length, 1⟩) (h.new (.cells (b.map fun (c : UInt8) => DV.int .u8 c.toNat) false 1)) (w.drew.alloc (.cells (bytesRow ⟨b.toArray⟩ (grownCap w b.length 0 el)) el ((bytesRow ⟨b.toArray⟩ (grownCap w b.length 0 el)).size, (bytesRow ⟨b.toArray⟩ (grownCap w b.length 0 el)).size + 1))) := by
      refine Step.new r ⟨w.heap.size, 0, _, _⟩ rfl (by simp) rfl rfl rfl (fun B hB => alloc_old w.drew _ hB) ?_
      refine objAt_new (rs := b.map fun (c : UInt8) => Value.int .u8 c.toNat) (more := List.replicate (grownCap w b.length 0 el - b.length) (Value.int .u8 0)) (T := el) (lo := (bytesRow ⟨b.toArray⟩ (grownCap w b.length 0 el)).size) (hi := (bytesRow ⟨b.toArray⟩ (grownCap w b.length 0 el)).size + 1) ?_ ?_ rfl (by simp) ?_
      · exact vals_mono (Env.le_add (r.new _ (Nat.le_refl _)) _) _ _ (hv b)
      · rw [← hrow]; exact alloc_last w.drew _
      · right
        rw [hsz]
        simp
        omega
    refine ⟨_, _, hst, .inl ⟨_, by simp only [execOp, ho, ← vx, Sem.run_bind, hr, Result.andThen_ok]; rfl, ?_⟩⟩
    simp only [val, Env.add, if_true, Bool.false_eq_true, if_false]
    rw [show b.length + (grownCap w b.length 0 el - b.length) = grownCap w b.length 0 el by omega]
    simp
  · cases hn
theorem bytesOf_ok : ∀ {cs : List DV} {l : List UInt8} {rs : List Value}, bytesOfD cs = some l → vals e cs = some rs → rs = l.map fun b => Value.int .u8 b.toNat
  | [], l, rs, h, hv => by simp [bytesOfD] at h; simp [vals] at hv; subst h; subst hv; rfl
  | c :: cs, l, rs, h, hv => by
    obtain ⟨x, xs, rfl, hx, hxs⟩ := vals_cons hv
    unfold bytesOfD at h
    split at h
    · next heq => cases heq
    · next n r heq =>
      cases heq
      split at h
      · next hlt =>
        split at h
        · next l' hl' =>
          cases h
          simp only [val, Option.some.injEq] at hx
          rw [bytesOf_ok hl' hxs, ← hx, List.map_cons]
          have hb : (UInt8.ofNat n).toNat = n := by rw [UInt8.toNat_ofNat']; omega
          rw [hb]
          rfl
        · cases h
      · cases h
    · cases h
theorem ok_bytesStr {s d el : TypeId} {x : Operand} (hg : Glob P e) (hf : FrR e t a.tmps) (r : Rep e h w) (ho : o.op = .convert s d x) (hs : P.underlying s = some (.slice el)) (hd : P.underlying d = some .string) (he : P.underlying el = some (.int .u8)) {x' : Opd} (hx : opdD P x = some x') (hn : opD D t h (.bytesStr x') = some nx) : NxOk P e h w (execOp a.eval o) nx := by
  have vx := opd_ok hg hf hx
  simp only [opD] at hn
  split at hn
  · next hb =>
    cases hn
    rw [hb] at vx
    simp only [val, Option.some.injEq] at vx
    refine .pure r (rv := .string ⟨#[]⟩) ?_ rfl
    simp [execOp, ho, ← vx, Sem.run_bind, run_convert_bytes_string w s d el none 0 0 hs he hd, Conv.bytesToString]
    rfl
  · next b o' z len cap tg hb =>
    rw [hb] at vx
    obtain ⟨y, hy, hv⟩ := slice_val vx
    split at hn
    · next cs hcs =>
      split at hcs
      case isFalse => cases hcs
      next hlc =>
      split at hn
      · next l hl =>
        cases hn
        obtain ⟨y', rs, hy', hvs, hr, hlen⟩ := load_cells r hcs
        rw [hy] at hy'
        cases hy'
        have hrs := bytesOf_ok hl hvs
        have hll : len = l.length := by rw [← hlen, hrs]; simp
        refine .pure r (rv := .string ⟨l.toArray⟩) ?_ rfl
        have hcell := cells_at (tg := tg) (z := z) (sz := 1) hr (by rw [hlen]; omega) hlc
        have := run_convert_bytes_back w s d el ⟨y.blk, y.base + (if (if tg = true then cap else cap + y.sp) = 0 then z else o'), none⟩ (if tg = true then cap else cap + y.sp) l hs he hd (fun j hj => hcell j _ (by rw [hrs]; simp [hj]))
        rw [← hll, ← hv] at this
        simp [execOp, ho, Sem.run_bind, this]
      · cases hn
    · cases hn
  · cases hn
end
end Go.Dx
