/- D: addresses, slices, parts. -/
import Derived.Test.YtfdplefijefeiaaGreatDoorZa
namespace Go.Dx
open Go

section
variable {P : Program} {e : Env} {t : Fr} {a : Act} {h : DHeap} {w : World} {o : Oper} {D : DProg} {nx : Nx}

theorem ok_fieldAddr {T : TypeId} {x : Operand} {i : Nat} {fs : Array Field} {f : Field} {n : Nat} (hg : Glob P e) (hf : FrR e t a.tmps) (r : Rep e h w) (ho : o.op = .fieldAddr T x i) (hT : P.underlying T = some (.struct fs)) (hi : fs[i]? = some f) (hs : sizeT P f.type = some n) (hn0 : n ≠ 0)
    {x' : Opd} (hx : opdD P x = some x') (hn : opD D t h (.fieldAddr f.offset x') = some nx) : NxOk P e h w (execOp a.eval o) nx := by
  have vx := opd_ok hg hf hx
  simp only [opD] at hn
  split at hn
  · next b o' hb =>
    cases hn
    rw [hb] at vx
    obtain ⟨y, hy, hv⟩ := ptr_val vx
    refine .pure r (rv := .pointer (some ⟨y.blk, y.base + (o' + f.offset), none⟩)) ?_ (by simp [val, hy])
    have hfp : (fieldPlace ⟨y.blk, y.base + o', none⟩ f).run P w = .ok ⟨y.blk, y.base + (o' + f.offset), none⟩ w := by
      unfold fieldPlace
      simp only [Sem.run_bind, run_sizeT hs, Result.andThen_ok]
      rw [if_neg hn0, Addr.add_mid, Nat.add_assoc]
      rfl
    simp [execOp, ho, hv, Instr.fieldAt, Sem.run_bind, run_underlying hT, hi, Instr.sureAddr, hfp]
  · cases hn
theorem ok_indexAddrA {T el : TypeId} {x i : Operand} {k n : Nat} (hg : Glob P e) (hf : FrR e t a.tmps) (r : Rep e h w) (ho : o.op = .indexAddr T x i) (hT : P.underlying T = some (.array k el)) (hs : sizeT P el = some n)
    {x' i' : Opd} (hx : opdD P x = some x') (hi : opdD P i = some i') (hn : opD D t h (.indexAddrA k n x' i') = some nx) : NxOk P e h w (execOp a.eval o) nx := by
  have vx := opd_ok hg hf hx
  have vi := opd_ok hg hf hi
  simp only [opD] at hn
  split at hn
  · next b o' j hb hj =>
    rw [hb] at vx
    obtain ⟨y, hy, hv⟩ := ptr_val vx
    obtain ⟨kk, hki⟩ := natOf_val hj vi
    split at hn
    · next hlt =>
      cases hn
      refine .pure r (rv := .pointer (some ⟨y.blk, y.base + (o' + j * n), none⟩)) ?_ (by simp [val, hy])
      have hc : (0 : Int) ≤ (j : Int) ∧ (j : Int) < (k : Int) := by omega
      simp [execOp, ho, hv, hki, Instr.indexAt, Sem.run_bind, asInt_nat, run_underlying hT, Instr.sureAddr, hc, run_sizeT hs, Addr.add_mid, Nat.add_assoc]
    · cases hn
  · cases hn
theorem slice_val {b o z len cap : Nat} {tg : Bool} {v : Value} (hv : val e (.slice b o z len cap tg) = some v) : ∃ x, e b = some x ∧ v = .slice (some ⟨x.blk, x.base + (if (if tg then cap else cap + x.sp) = 0 then z else o), none⟩) len (if tg then cap else cap + x.sp) := by
  cases hb : e b with
  | none => simp [val, hb] at hv
  | some x => simp only [val, hb, Option.some.injEq] at hv; exact ⟨x, rfl, hv.symm⟩
theorem ok_indexAddrS {T el : TypeId} {x i : Operand} {n : Nat} (hg : Glob P e) (hf : FrR e t a.tmps) (r : Rep e h w) (ho : o.op = .indexAddr T x i) (hT : P.underlying T = some (.slice el)) (hs : sizeT P el = some n)
    {x' i' : Opd} (hx : opdD P x = some x') (hi : opdD P i = some i') (hn : opD D t h (.indexAddrS n x' i') = some nx) : NxOk P e h w (execOp a.eval o) nx := by
  have vx := opd_ok hg hf hx
  have vi := opd_ok hg hf hi
  simp only [opD] at hn
  split at hn
  · next b o' z len cap tg j hb hj =>
    rw [hb] at vx
    obtain ⟨y, hy, hv⟩ := slice_val vx
    obtain ⟨kk, hki⟩ := natOf_val hj vi
    split at hn
    · next hlt =>
      cases hn
      refine .pure r (rv := .pointer (some ⟨y.blk, y.base + (o' + j * n), none⟩)) ?_ (by simp [val, hy])
      have hc : (0 : Int) ≤ (j : Int) ∧ (j : Int) < (len : Int) := by omega
      have hz : (if (if tg = true then cap else cap + y.sp) = 0 then z else o') = o' := if_neg (by cases tg <;> simp <;> omega)
      rw [hz] at hv
      simp [execOp, ho, hv, hki, Instr.indexAt, Sem.run_bind, asInt_nat, run_underlying hT, hc, run_sizeT hs, Addr.add_mid, Nat.add_assoc]
    · cases hn
  · cases hn
theorem lo_ok {lo : Option Operand} {lo' : Option Opd} (hg : Glob P e) (hf : FrR e t a.tmps) (h : opdO P lo = some lo') : (∀ x, lo' = some x → ∃ y, lo = some y ∧ val e (x.ev t) = some (a.eval y)) ∧ (lo' = none → lo = none) := by
  cases lo with
  | none => simp [opdO] at h; subst h; exact ⟨fun x hx => (by cases hx), fun _ => rfl⟩
  | some y =>
    simp only [opdO, Option.map_eq_some_iff] at h
    obtain ⟨x, hx, rfl⟩ := h
    exact ⟨fun x' hx' => (by cases hx'; exact ⟨y, rfl, opd_ok hg hf hx⟩), fun h0 => (by cases h0)⟩
theorem ok_sliceStr {T : TypeId} {x : Operand} {lo hi : Option Operand} (hg : Glob P e) (hf : FrR e t a.tmps) (r : Rep e h w) (ho : o.op = .slice T x lo hi none) (hT : P.underlying T = some .string)
    {x' : Opd} {lo' hi' : Option Opd} (hx : opdD P x = some x') (hlo : opdO P lo = some lo') (hhi : opdO P hi = some hi') (hn : opD D t h (.sliceStr x' lo' hi') = some nx) : NxOk P e h w (execOp a.eval o) nx := by
  have vx := opd_ok hg hf hx
  simp only [opD] at hn
  split at hn
  · next s hb =>
    rw [hb] at vx
    simp only [val, Option.some.injEq] at vx
    split at hn
    · next l u m hbd =>
      cases hn
      obtain ⟨_, h1, h2, h3⟩ := bounds_ok (P := P) (w := w) (a := a) (isS := false) (lo_ok hg hf hlo).1 (lo_ok hg hf hlo).2 (lo_ok hg hf hhi).1 (lo_ok hg hf hhi).2 hbd s.length (Nat.le_refl _)
      refine .pure r (rv := .string ((⟨s.toArray⟩ : ByteArray).extract l u)) ?_ ?_
      · simp [execOp, ho, ← vx, Instr.sliceAt, Instr.slice, Sem.run_bind, run_underlying hT, size_list, h3]
      · simp only [val, Option.some.injEq, Value.string.injEq]
        apply ByteArray.ext
        rw [ByteArray.data_extract]
        simp [List.extract_eq_take_drop]
    · cases hn
  · cases hn
theorem ok_sliceArr {T A el : TypeId} {x : Operand} {lo hi : Option Operand} {k n : Nat} (hg : Glob P e) (hf : FrR e t a.tmps) (r : Rep e h w) (ho : o.op = .slice T x lo hi none) (hT : (P.underlying T = some (.array k el)) ∨ (P.underlying T = some (.pointer A) ∧ P.underlying A = some (.array k el))) (hs : sizeT P el = some n)
    {x' : Opd} {lo' hi' : Option Opd} (hx : opdD P x = some x') (hlo : opdO P lo = some lo') (hhi : opdO P hi = some hi') (hn : opD D t h (.sliceArr k n x' lo' hi') = some nx) : NxOk P e h w (execOp a.eval o) nx := by
  have vx := opd_ok hg hf hx
  simp only [opD] at hn
  split at hn
  · next b o' hb =>
    rw [hb] at vx
    obtain ⟨y, hy, hv⟩ := ptr_val vx
    split at hn
    · next l u m hbd =>
      cases hn
      obtain ⟨hm, h1, h2, h3⟩ := bounds_ok (P := P) (w := w) (a := a) (isS := false) (lo_ok hg hf hlo).1 (lo_ok hg hf hlo).2 (lo_ok hg hf hhi).1 (lo_ok hg hf hhi).2 hbd k (Nat.le_refl _)
      subst hm
      refine .pure r (rv := .slice (some ⟨y.blk, y.base + (if m = l then o' else o' + l * n), none⟩) (u - l) (m - l)) ?_ ?_
      · have he : (if m = l then (⟨y.blk, y.base + o', none⟩ : Addr) else (⟨y.blk, y.base + o', none⟩ : Addr).add (l * n)) = ⟨y.blk, y.base + (if m = l then o' else o' + l * n), none⟩ := by
          by_cases hml : m = l
          · rw [if_pos hml, if_pos hml]
          · rw [if_neg hml, if_neg hml, Addr.add_mid, Nat.add_assoc]
        rcases hT with hT | ⟨hT, hA⟩
        · simp [execOp, ho, hv, Instr.sliceAt, Sem.run_bind, run_underlying hT, Instr.sureAddr, h3, run_sizeT hs, he]
        · simp [execOp, ho, hv, Instr.sliceAt, Instr.slice, Sem.run_bind, run_underlying hT, run_underlying hA, asAddr, h3, run_sizeT hs, he]
      · simp only [val, hy]
        by_cases hml : m = l
        · simp [hml]
        · simp [hml]
    · cases hn
  · cases hn
end
end Go.Dx
