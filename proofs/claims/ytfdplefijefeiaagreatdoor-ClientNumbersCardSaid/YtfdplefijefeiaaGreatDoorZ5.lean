/- The evaluator, part 5. -/
import Derived.Test.YtfdplefijefeiaaGreatDoorZ4
import Derived.Deep.AppendSrc
/- D: operations on memory. -/
namespace Go.Dx
open Go

theorem run_newRow {P : Program} (T : TypeId) (c : Array Value) (w : World) : (newRow T c).run P w = .ok ⟨w.heap.size, 0, none⟩ (w.alloc (.cells c T)) := rfl
theorem run_newVar {P : Program} (T : TypeId) (v : Value) (w : World) : (newVar T v).run P w = .ok ⟨w.heap.size, 0, none⟩ (w.alloc (.cells v.cells T)) := rfl

section
variable {P : Program} {e : Env} {t : Fr} {a : Act} {h : DHeap} {w : World} {o : Oper} {D : DProg} {nx : Nx}

theorem ok_alloc {T : TypeId} (r : Rep e h w) (ho : o.op = .alloc T) {z : DV} (hz : zeroT P T = some z) (hn : opD D t h (.alloc z.cells) = some nx) : NxOk P e h w (execOp a.eval o) nx := by
  simp only [opD, Option.some.injEq] at hn
  subst hn
  obtain ⟨v, h1, h2⟩ := run_zeroT hz e w
  have hst := step_new_cells r (cells_val h2) [] T 0 0 (by simp)
  refine ⟨_, _, hst, .inl ⟨.pointer (some ⟨w.heap.size, 0, none⟩), ?_, add_ptr ..⟩⟩
  simp [execOp, ho, Instr.alloc, Sem.run_bind, h1, run_newVar]
theorem ok_box {T : TypeId} {x : Operand} (hg : Glob P e) (hf : FrR e t a.tmps) (r : Rep e h w) (ho : o.op = .box T x) {x' : Opd} (hx : opdD P x = some x') (hn : opD D t h (.box x') = some nx) : NxOk P e h w (execOp a.eval o) nx := by
  have vx := opd_ok hg hf hx
  simp only [opD, Option.some.injEq] at hn
  subst hn
  have hst := step_new_cells r (cells_val vx) [] T 0 0 (by simp)
  refine ⟨_, _, hst, .inl ⟨.pointer (some ⟨w.heap.size, 0, none⟩), ?_, add_ptr ..⟩⟩
  simp [execOp, ho, Instr.box, Sem.run_bind, run_newVar]
theorem ptr_val {b o : Nat} {v : Value} (hv : val e (.ptr b o) = some v) : ∃ x, e b = some x ∧ v = .pointer (some ⟨x.blk, x.base + o, none⟩) := by
  cases hb : e b with
  | none => simp [val, hb] at hv
  | some x => simp only [val, hb, Option.some.injEq] at hv; exact ⟨x, rfl, hv.symm⟩
theorem ok_load1 {T : TypeId} {x : Operand} {d : TypeDesc} (hg : Glob P e) (hf : FrR e t a.tmps) (r : Rep e h w) (ho : o.op = .load T x) (hu : P.underlying T = some d) (hT : isAggT P T = false) {x' : Opd} (hx : opdD P x = some x') (hn : opD D t h (.load1 x') = some nx) : NxOk P e h w (execOp a.eval o) nx := by
  have vx := opd_ok hg hf hx
  simp only [opD] at hn
  split at hn
  · next b o' hb =>
    rw [hb] at vx
    obtain ⟨y, hy, hv⟩ := ptr_val vx
    split at hn
    · next v hl =>
      cases hn
      obtain ⟨y', rs, hy', hvs, hr, _⟩ := load_cells r hl
      rw [hy] at hy'
      cases hy'
      obtain ⟨rv, rs', rfl, h1, _⟩ := vals_cons hvs
      have hc : w.cell? ⟨y.blk, y.base + o', none⟩ = some rv := by have := hr 0 rv rfl; rwa [Nat.add_zero] at this
      refine .pure r (rv := rv) ?_ h1
      simp [execOp, ho, hv, Instr.loadAt, Instr.sureAddr, loadVar, Sem.run_bind, run_isAggT hu, hT, load, Sem.run, hc]
    · cases hn
  · cases hn
theorem run_loadN {T : TypeId} {d : TypeDesc} {n : Nat} (hu : P.underlying T = some d) (hT : isAggT P T = true) (hs : sizeT P T = some n) {B off : Nat} {rs : List Value} (hr : w.rangeAt B off rs) (hl : rs.length = n) : (loadVar T ⟨B, off, none⟩).run P w = .ok (.agg rs.toArray) w := by
  have hd : d.isRow = true := by unfold isAggT at hT; rw [hu] at hT; cases d <;> first | rfl | cases hT
  exact run_loadVar_mid w B off T rs d hr hu hd (by rw [hl]; exact hs)
theorem ok_loadN {T : TypeId} {x : Operand} {d : TypeDesc} {n : Nat} (hg : Glob P e) (hf : FrR e t a.tmps) (r : Rep e h w) (ho : o.op = .load T x) (hu : P.underlying T = some d) (hT : isAggT P T = true) (hs : sizeT P T = some n) {x' : Opd} (hx : opdD P x = some x') (hn : opD D t h (.loadN n x') = some nx) : NxOk P e h w (execOp a.eval o) nx := by
  have vx := opd_ok hg hf hx
  simp only [opD] at hn
  split at hn
  · next b o' hb =>
    rw [hb] at vx
    obtain ⟨y, hy, hv⟩ := ptr_val vx
    split at hn
    · next cs hl =>
      cases hn
      obtain ⟨y', rs, hy', hvs, hr, hlen⟩ := load_cells r hl
      rw [hy] at hy'
      cases hy'
      refine .pure r (rv := .agg rs.toArray) ?_ (by simp only [val, hvs])
      simp [execOp, ho, hv, Instr.loadAt, Instr.sureAddr, Sem.run_bind, run_loadN hu hT hs hr hlen]
    · cases hn
  · cases hn
theorem run_store {T : TypeId} {n : Nat} (hs : sizeT P T = some n) {B off : Nat} {v : Value} {rs : List Value} (hc : v.cells.toList = rs) (hl : rs.length = n) (ht : w.there B off rs.length) (h1 : ∀ v ∈ rs, v.oneCell' = true) : (storeVar T ⟨B, off, none⟩ v).run P w = .ok () (w.setCells B off rs) := by
  have := run_storeCells_cells (P := P) B off rs 0 w (fun j hj => by simpa using (ht j hj).1) (fun j hj => by simpa using (ht j hj).2) h1
  rw [Nat.add_zero] at this
  have hsz : v.cells.size = n := by rw [← hl, ← hc]; simp
  unfold storeVar
  simp only [Sem.run_bind, run_sizeT hs, Result.andThen_ok]
  simp [hsz, hc, this]
theorem ok_store {T : TypeId} {x y : Operand} {n : Nat} (hg : Glob P e) (hf : FrR e t a.tmps) (r : Rep e h w) (ho : o.op = .store T x y) (hs : sizeT P T = some n) {x' y' : Opd} (hx : opdD P x = some x') (hy : opdD P y = some y') (hn : opD D t h (.store n x' y') = some nx) : NxOk P e h w (execOp a.eval o) nx := by
  have vx := opd_ok hg hf hx
  have vy := opd_ok hg hf hy
  simp only [opD] at hn
  split at hn
  · next b o' hb =>
    rw [hb] at vx
    obtain ⟨z, hz, hv⟩ := ptr_val vx
    split at hn
    · next hlen =>
      split at hn
      · next h' hst =>
        cases hn
        have hcv := cells_val vy
        obtain ⟨z', hz', ht, h1, hstep⟩ := store_cells r hcv hst
        rw [hz] at hz'
        cases hz'
        refine ⟨e, _, hstep, .inr ⟨?_, rfl⟩⟩
        have hl : (a.eval y).cells.toList.length = n := by rw [vals_length hcv]; exact hlen
        simp [execOp, ho, hv, Instr.storeAt, Instr.sureAddr, Sem.run_bind, run_store hs rfl hl ht h1]
      · cases hn
    · cases hn
  · cases hn
theorem ok_mkMap {T : TypeId} (r : Rep e h w) (ho : o.op = .makeMap T none) (hn : opD D t h .mkMap = some nx) : NxOk P e h w (execOp a.eval o) nx := by
  simp only [opD, Option.some.injEq] at hn
  subst hn
  have hst : Step e h w (e.add h.next ⟨w.heap.size, 0, 0, 1⟩) (h.new (.map [] 0)) (w.alloc (.map #[] 0)) :=
    Step.new r ⟨w.heap.size, 0, 0, 1⟩ rfl (by simp) rfl rfl rfl (fun B hB => alloc_old w _ hB) ⟨[], rfl, alloc_last w _⟩
  refine ⟨_, _, hst, .inl ⟨.map (some w.heap.size), ?_, by simp [val, Env.add]⟩⟩
  simp [execOp, ho, Instr.makeMap]
end
end Go.Dx
/- D: addresses, slices, parts. -/
namespace Go.Dx
open Go

section
variable {P : Program} {e : Env} {t : Fr} {a : Act} {h : DHeap} {w : World} {o : Oper} {D : DProg} {nx : Nx}

theorem ok_fieldAddr {T : TypeId} {x : Operand} {i : Nat} {fs : Array Field} {f : Field} {n : Nat} (hg : Glob P e) (hf : FrR e t a.tmps) (r : Rep e h w) (ho : o.op = .fieldAddr T x i) (hT : P.underlying T = some (.struct fs)) (hi : fs[i]? = some f) (hs : sizeT P f.type = some n) (hn0 : n ≠ 0)
    {x' : Opd} (hx : opdD P x = some x') (hn : opD D t h (.fieldAddr f.offset x') = some nx) : NxOk P e h w (execOp a.eval o) nx := by
  have vx := opd_ok hg hf hx
  simp only [opD] at hn
  split at hn
  · next b o' hb =>
    cases hn
    rw [hb] at vx
    obtain ⟨y, hy, hv⟩ := ptr_val vx
    refine .pure r (rv := .pointer (some ⟨y.blk, y.base + (o' + f.offset), none⟩)) ?_ (by simp [val, hy])
    have hfp : (fieldPlace ⟨y.blk, y.base + o', none⟩ f).run P w = .ok ⟨y.blk, y.base + (o' + f.offset), none⟩ w := by
      unfold fieldPlace
      simp only [Sem.run_bind, run_sizeT hs, Result.andThen_ok]
      rw [if_neg hn0, Addr.add_mid, Nat.add_assoc]
      rfl
    simp [execOp, ho, hv, Instr.fieldAt, Sem.run_bind, run_underlying hT, hi, Instr.sureAddr, hfp]
  · cases hn
theorem ok_indexAddrA {T el : TypeId} {x i : Operand} {k n : Nat} (hg : Glob P e) (hf : FrR e t a.tmps) (r : Rep e h w) (ho : o.op = .indexAddr T x i) (hT : P.underlying T = some (.array k el)) (hs : sizeT P el = some n)
    {x' i' : Opd} (hx : opdD P x = some x') (hi : opdD P i = some i') (hn : opD D t h (.indexAddrA k n x' i') = some nx) : NxOk P e h w (execOp a.eval o) nx := by
  have vx := opd_ok hg hf hx
  have vi := opd_ok hg hf hi
  simp only [opD] at hn
  split at hn
  · next b o' j hb hj =>
    rw [hb] at vx
    obtain ⟨y, hy, hv⟩ := ptr_val vx
    obtain ⟨kk, hki⟩ := natOf_val hj vi
    split at hn
    · next hlt =>
      cases hn
      refine .pure r (rv := .pointer (some ⟨y.blk, y.base + (o' + j * n), none⟩)) ?_ (by simp [val, hy])
      have hc : (0 : Int) ≤ (j : Int) ∧ (j : Int) < (k : Int) := by omega
      simp [execOp, ho, hv, hki, Instr.indexAt, Sem.run_bind, asInt_nat, run_underlying hT, Instr.sureAddr, hc, run_sizeT hs, Addr.add_mid, Nat.add_assoc]
    · cases hn
  · cases hn
theorem slice_val {b o z len cap : Nat} {tg : Bool} {v : Value} (hv : val e (.slice b o z len cap tg) = some v) : ∃ x, e b = some x ∧ v = .slice (some ⟨x.blk, x.base + (if (if tg then cap else cap + x.sp) = 0 then z else o), none⟩) len (if tg then cap else cap + x.sp) := by
  cases hb : e b with
  | none => simp [val, hb] at hv
  | some x => simp only [val, hb, Option.some.injEq] at hv; exact ⟨x, rfl, hv.symm⟩
theorem ok_indexAddrS {T el : TypeId} {x i : Operand} {n : Nat} (hg : Glob P e) (hf : FrR e t a.tmps) (r : Rep e h w) (ho : o.op = .indexAddr T x i) (hT : P.underlying T = some (.slice el)) (hs : sizeT P el = some n)
    {x' i' : Opd} (hx : opdD P x = some x') (hi : opdD P i = some i') (hn : opD D t h (.indexAddrS n x' i') = some nx) : NxOk P e h w (execOp a.eval o) nx := by
  have vx := opd_ok hg hf hx
  have vi := opd_ok hg hf hi
  simp only [opD] at hn
  split at hn
  · next b o' z len cap tg j hb hj =>
    rw [hb] at vx
    obtain ⟨y, hy, hv⟩ := slice_val vx
    obtain ⟨kk, hki⟩ := natOf_val hj vi
    split at hn
    · next hlt =>
      cases hn
      refine .pure r (rv := .pointer (some ⟨y.blk, y.base + (o' + j * n), none⟩)) ?_ (by simp [val, hy])
      have hc : (0 : Int) ≤ (j : Int) ∧ (j : Int) < (len : Int) := by omega
      have hz : (if (if tg = true then cap else cap + y.sp) = 0 then z else o') = o' := if_neg (by cases tg <;> simp <;> omega)
      rw [hz] at hv
      simp [execOp, ho, hv, hki, Instr.indexAt, Sem.run_bind, asInt_nat, run_underlying hT, hc, run_sizeT hs, Addr.add_mid, Nat.add_assoc]
    · cases hn
  · cases hn
theorem lo_ok {lo : Option Operand} {lo' : Option Opd} (hg : Glob P e) (hf : FrR e t a.tmps) (h : opdO P lo = some lo') : (∀ x, lo' = some x → ∃ y, lo = some y ∧ val e (x.ev t) = some (a.eval y)) ∧ (lo' = none → lo = none) := by
  cases lo with
  | none => simp [opdO] at h; subst h; exact ⟨fun x hx => (by cases hx), fun _ => rfl⟩
  | some y =>
    simp only [opdO, Option.map_eq_some_iff] at h
    obtain ⟨x, hx, rfl⟩ := h
    exact ⟨fun x' hx' => (by cases hx'; exact ⟨y, rfl, opd_ok hg hf hx⟩), fun h0 => (by cases h0)⟩
theorem ok_sliceStr {T : TypeId} {x : Operand} {lo hi : Option Operand} (hg : Glob P e) (hf : FrR e t a.tmps) (r : Rep e h w) (ho : o.op = .slice T x lo hi none) (hT : P.underlying T = some .string)
    {x' : Opd} {lo' hi' : Option Opd} (hx : opdD P x = some x') (hlo : opdO P lo = some lo') (hhi : opdO P hi = some hi') (hn : opD D t h (.sliceStr x' lo' hi') = some nx) : NxOk P e h w (execOp a.eval o) nx := by
  have vx := opd_ok hg hf hx
  simp only [opD] at hn
  split at hn
  · next s hb =>
    rw [hb] at vx
    simp only [val, Option.some.injEq] at vx
    split at hn
    · next l u m hbd =>
      cases hn
      obtain ⟨_, h1, h2, h3⟩ := bounds_ok (P := P) (w := w) (a := a) (isS := false) (lo_ok hg hf hlo).1 (lo_ok hg hf hlo).2 (lo_ok hg hf hhi).1 (lo_ok hg hf hhi).2 hbd s.length (Nat.le_refl _)
      refine .pure r (rv := .string ((⟨s.toArray⟩ : ByteArray).extract l u)) ?_ ?_
      · simp [execOp, ho, ← vx, Instr.sliceAt, Instr.slice, Sem.run_bind, run_underlying hT, size_list, h3]
      · simp only [val, Option.some.injEq, Value.string.injEq]
        apply ByteArray.ext
        rw [ByteArray.data_extract]
        simp [List.extract_eq_take_drop]
    · cases hn
  · cases hn
theorem ok_sliceArr {T A el : TypeId} {x : Operand} {lo hi : Option Operand} {k n : Nat} (hg : Glob P e) (hf : FrR e t a.tmps) (r : Rep e h w) (ho : o.op = .slice T x lo hi none) (hT : (P.underlying T = some (.array k el)) ∨ (P.underlying T = some (.pointer A) ∧ P.underlying A = some (.array k el))) (hs : sizeT P el = some n)
    {x' : Opd} {lo' hi' : Option Opd} (hx : opdD P x = some x') (hlo : opdO P lo = some lo') (hhi : opdO P hi = some hi') (hn : opD D t h (.sliceArr k n x' lo' hi') = some nx) : NxOk P e h w (execOp a.eval o) nx := by
  have vx := opd_ok hg hf hx
  simp only [opD] at hn
  split at hn
  · next b o' hb =>
    rw [hb] at vx
    obtain ⟨y, hy, hv⟩ := ptr_val vx
    split at hn
    · next l u m hbd =>
      cases hn
      obtain ⟨hm, h1, h2, h3⟩ := bounds_ok (P := P) (w := w) (a := a) (isS := false) (lo_ok hg hf hlo).1 (lo_ok hg hf hlo).2 (lo_ok hg hf hhi).1 (lo_ok hg hf hhi).2 hbd k (Nat.le_refl _)
      subst hm
      refine .pure r (rv := .slice (some ⟨y.blk, y.base + (if m = l then o' else o' + l * n), none⟩) (u - l) (m - l)) ?_ ?_
      · have he : (if m = l then (⟨y.blk, y.base + o', none⟩ : Addr) else (⟨y.blk, y.base + o', none⟩ : Addr).add (l * n)) = ⟨y.blk, y.base + (if m = l then o' else o' + l * n), none⟩ := by
          by_cases hml : m = l
          · rw [if_pos hml, if_pos hml]
          · rw [if_neg hml, if_neg hml, Addr.add_mid, Nat.add_assoc]
        rcases hT with hT | ⟨hT, hA⟩
        · simp [execOp, ho, hv, Instr.sliceAt, Sem.run_bind, run_underlying hT, Instr.sureAddr, h3, run_sizeT hs, he]
        · simp [execOp, ho, hv, Instr.sliceAt, Instr.slice, Sem.run_bind, run_underlying hT, run_underlying hA, asAddr, h3, run_sizeT hs, he]
      · simp only [val, hy]
        by_cases hml : m = l
        · simp [hml]
        · simp [hml]
    · cases hn
  · cases hn
end
end Go.Dx
/- D: slices of slices, aggregates. -/
namespace Go.Dx
open Go

section
variable {P : Program} {e : Env} {t : Fr} {a : Act} {h : DHeap} {w : World} {o : Oper} {D : DProg} {nx : Nx}

theorem ok_sliceSl {T el : TypeId} {x : Operand} {lo hi : Option Operand} {n : Nat} (hg : Glob P e) (hf : FrR e t a.tmps) (r : Rep e h w) (ho : o.op = .slice T x lo hi none) (hT : P.underlying T = some (.slice el)) (hs : sizeT P el = some n)
    {x' : Opd} {lo' hi' : Option Opd} (hx : opdD P x = some x') (hlo : opdO P lo = some lo') (hhi : opdO P hi = some hi') (hn : opD D t h (.sliceSl n x' lo' hi' none) = some nx) : NxOk P e h w (execOp a.eval o) nx := by
  have vx := opd_ok hg hf hx
  simp only [opD, Option.map_none] at hn
  split at hn
  · next hb =>
    rw [hb] at vx
    simp only [val, Option.some.injEq] at vx
    split at hn
    · next q hbd =>
      cases hn
      obtain ⟨l, u, m⟩ := q
      obtain ⟨hm, h1, h2, h3⟩ := bounds_ok (P := P) (w := w) (a := a) (isS := true) (lo_ok hg hf hlo).1 (lo_ok hg hf hlo).2 (lo_ok hg hf hhi).1 (lo_ok hg hf hhi).2 hbd 0 (Nat.le_refl _)
      obtain rfl : u = 0 := by omega
      obtain rfl : l = 0 := by omega
      refine .pure r (rv := .slice none 0 0) ?_ rfl
      simp [execOp, ho, ← vx, Instr.sliceAt, Instr.slice, Sem.run_bind, run_underlying hT, h3, run_sizeT hs]
    · cases hn
  · next b o' z len cap tg hb =>
    rw [hb] at vx
    obtain ⟨y, hy, hv⟩ := slice_val vx
    split at hn
    · next l u m hbd =>
      simp only [Option.isSome_none, Bool.false_eq_true, if_false, Option.some.injEq] at hn
      subst hn
      obtain ⟨c, hc⟩ : ∃ c, c = (if tg = true then cap else cap + y.sp) := ⟨_, rfl⟩
      rw [← hc] at hv
      have hcc : cap ≤ c := by rw [hc]; split <;> omega
      obtain ⟨hm, h1, h2, h3⟩ := bounds_ok (P := P) (w := w) (a := a) (isS := true) (lo_ok hg hf hlo).1 (lo_ok hg hf hlo).2 (lo_ok hg hf hhi).1 (lo_ok hg hf hhi).2 hbd c hcc
      subst hm
      have hc' : (if tg = true then m - l else m - l + y.sp) = c - l := by rw [hc]; split <;> omega
      refine .pure r (rv := .slice (if c = l then some ⟨y.blk, y.base + (if c = 0 then z else o'), none⟩ else some ((⟨y.blk, y.base + (if c = 0 then z else o'), none⟩ : Addr).add (l * n))) (u - l) (c - l)) ?_ ?_
      · simp [execOp, ho, hv, Instr.sliceAt, Instr.slice, Sem.run_bind, run_underlying hT, h3, run_sizeT hs]
      · simp only [val, hy, hc', Option.some.injEq, Value.slice.injEq, and_true]
        by_cases hcl : c = l
        · rw [if_pos (by omega), if_pos hcl]
          by_cases hm0 : m = 0
          · rw [if_pos hm0]
            have hc0 : c = 0 := by omega
            rw [if_pos hc0]
          · rw [if_neg hm0, if_neg (by omega)]
        · rw [if_neg (by omega), if_neg hcl, if_neg (by omega), Addr.add_mid, Nat.add_assoc]
    · cases hn
  · cases hn
theorem ok_slice3 {T el : TypeId} {x hi mx : Operand} {lo : Option Operand} {n : Nat} (hg : Glob P e) (hf : FrR e t a.tmps) (r : Rep e h w) (ho : o.op = .slice T x lo (some hi) (some mx)) (hT : P.underlying T = some (.slice el)) (hs : sizeT P el = some n)
    {x' hi' mx' : Opd} {lo' : Option Opd} (hx : opdD P x = some x') (hlo : opdO P lo = some lo') (hhi : opdD P hi = some hi') (hmx : opdD P mx = some mx') (hn : opD D t h (.sliceSl n x' lo' (some hi') (some mx')) = some nx) : NxOk P e h w (execOp a.eval o) nx := by
  have vx := opd_ok hg hf hx
  simp only [opD, Option.map_some] at hn
  split at hn
  · next hb =>
    rw [hb] at vx
    simp only [val, Option.some.injEq] at vx
    split at hn
    · next q hbd =>
      cases hn
      obtain ⟨l, u, m⟩ := q
      obtain ⟨hm, h1, h2, h3⟩ := bounds3_ok (P := P) (w := w) (a := a) (isS := true) (lo_ok hg hf hlo).1 (lo_ok hg hf hlo).2 (opd_ok hg hf hhi) (opd_ok hg hf hmx) hbd 0 (Nat.le_refl _)
      obtain rfl : m = 0 := by omega
      obtain rfl : u = 0 := by omega
      obtain rfl : l = 0 := by omega
      refine .pure r (rv := .slice none 0 0) ?_ rfl
      simp [execOp, ho, ← vx, Instr.sliceAt, Instr.slice, Sem.run_bind, run_underlying hT, h3, run_sizeT hs]
    · cases hn
  · next b o' z len cap tg hb =>
    rw [hb] at vx
    obtain ⟨y, hy, hv⟩ := slice_val vx
    split at hn
    · next l u m hbd =>
      simp only [Option.isSome_some, if_true] at hn
      split at hn
      · next hct =>
        simp only [Option.some.injEq] at hn
        subst hn
        have hct : cap = 0 ∧ tg = false := by simpa using hct
        obtain ⟨hc0, htg⟩ := hct
        subst hc0 htg
        simp only [Bool.false_eq_true, if_false, Nat.zero_add] at hv
        obtain ⟨hm, h1, h2, h3⟩ := bounds3_ok (P := P) (w := w) (a := a) (isS := true) (lo_ok hg hf hlo).1 (lo_ok hg hf hlo).2 (opd_ok hg hf hhi) (opd_ok hg hf hmx) hbd y.sp (Nat.zero_le _)
        obtain rfl : m = 0 := by omega
        obtain rfl : u = 0 := by omega
        obtain rfl : l = 0 := by omega
        refine .pure r (rv := .slice (some ⟨y.blk, y.base + (if y.sp = 0 then z else o'), none⟩) 0 0) ?_ (by simp only [val, hy])
        simp [execOp, ho, hv, Instr.sliceAt, Instr.slice, Sem.run_bind, run_underlying hT, h3, run_sizeT hs]
      · next hct =>
        simp only [Option.some.injEq] at hn
        subst hn
        obtain ⟨c, hc⟩ : ∃ c, c = (if tg = true then cap else cap + y.sp) := ⟨_, rfl⟩
        rw [← hc] at hv
        have hcc : cap ≤ c := by rw [hc]; split <;> omega
        have hc0 : cap = 0 → c = 0 := fun h0 => by
          rw [hc]
          cases tg with
          | true => exact h0
          | false => exact absurd (by simp [h0]) hct
        obtain ⟨hm, h1, h2, h3⟩ := bounds3_ok (P := P) (w := w) (a := a) (isS := true) (lo_ok hg hf hlo).1 (lo_ok hg hf hlo).2 (opd_ok hg hf hhi) (opd_ok hg hf hmx) hbd c hcc
        refine .pure r (rv := .slice (if m = l then some ⟨y.blk, y.base + (if c = 0 then z else o'), none⟩ else some ((⟨y.blk, y.base + (if c = 0 then z else o'), none⟩ : Addr).add (l * n))) (u - l) (m - l)) ?_ ?_
        · simp [execOp, ho, hv, Instr.sliceAt, Instr.slice, Sem.run_bind, run_underlying hT, h3, run_sizeT hs]
        · simp only [val, hy, if_true, Option.some.injEq, Value.slice.injEq, and_true]
          by_cases hcl : m = l
          · rw [if_pos (by omega), if_pos hcl]
            by_cases hm0 : cap = 0
            · rw [if_pos hm0, if_pos (hc0 hm0)]
            · rw [if_neg hm0, if_neg (by omega)]
          · rw [if_neg (by omega), if_neg hcl, if_neg (by omega), Addr.add_mid, Nat.add_assoc]
    · cases hn
  · cases hn
end
end Go.Dx
/- D: append. -/
namespace Go.Dx
open Go

theorem Step.ofKill {e e' : Env} {h h' : DHeap} {w w' : World} {b : Nat} (s : Step e (h.kill b) w e' h' w') : Step e h w e' h' w' := by
  have hsub : ∀ B, Foot e (h.kill b) B → Foot e h B := fun B ⟨c, o, x, h1, h2⟩ => by
    rw [DHeap.get_kill] at h1
    by_cases hc : c = b
    · rw [if_pos hc] at h1; cases h1
    · rw [if_neg hc] at h1; exact ⟨c, o, x, h1, h2⟩
  exact ⟨s.le, s.rep, s.os, s.tape, s.output, s.size, fun B hB hF => s.block B hB fun hF' => hF (hsub B hF'), fun B hF => (s.foot B hF).imp (hsub B) id, s.rng⟩
/-- an object given up, another one made in its very block -/
theorem Step.move {e : Env} {h : DHeap} {w w' : World} (r : Rep e h w) {b : Nat} {o o' : DObj} {x x' : Ent} (hg : h.get b = some o) (hro : o.ro = false) (hx : e b = some x) (hblk : x'.blk = x.blk)
    (hs : w'.heap.size = w.heap.size) (ho : w'.os = w.os) (ht : w'.tape = w.tape) (hu : w'.output = w.output) (hb : ∀ B, B ≠ x.blk → w'.heap[B]? = w.heap[B]?)
    (hobj : objAt (e.add h.next x') w' x' o') : Step e h w (e.add h.next x') ((h.kill b).new o') w' where
  le := Env.le_add (r.new _ (Nat.le_refl _)) x'
  os := ho
  tape := ht
  output := hu
  size := by omega
  block := fun B _ hF => hb B fun e' => hF ⟨b, o, x, hg, hro, hx, e'.symm⟩
  rng := fun c y hy => by
    unfold Env.add at hy
    by_cases hc : c = h.next
    · rw [if_pos hc] at hy
      cases hy
      exact .inl ⟨b, x, hx, hblk.symm⟩
    · rw [if_neg hc] at hy
      exact .inl ⟨c, y, hy, rfl⟩
  foot := fun B ⟨c, o1, y, h1, h2, h3, h4⟩ => by
    rw [DHeap.get_new] at h1
    have hnx : (h.kill b).next = h.next := rfl
    rw [hnx] at h1
    by_cases hc : c = h.next
    · unfold Env.add at h3
      rw [if_pos hc] at h3
      cases h3
      exact .inl ⟨b, o, x, hg, hro, hx, by rw [← h4, hblk]⟩
    · rw [if_neg hc, DHeap.get_kill] at h1
      unfold Env.add at h3
      rw [if_neg hc] at h3
      by_cases hcb : c = b
      · rw [if_pos hcb] at h1; cases h1
      · rw [if_neg hcb] at h1
        exact .inl ⟨c, o1, y, h1, h2, h3, h4⟩
  rep := by
    have hnx : (h.kill b).next = h.next := rfl
    have hle := Env.le_add (r.new _ (Nat.le_refl _)) x'
    have hold : ∀ c o1, ((h.kill b).new o').get c = some o1 → c ≠ h.next → h.get c = some o1 ∧ c ≠ b := fun c o1 hc hne => by
      rw [DHeap.get_new, hnx, if_neg hne, DHeap.get_kill] at hc
      by_cases hcb : c = b
      · rw [if_pos hcb] at hc; cases hc
      · rw [if_neg hcb] at hc; exact ⟨hc, hcb⟩
    refine ⟨fun c o1 hc => ?_, fun c c' o1 o2 y y' h1 h2 hr0 h3 h4 h5 => ?_, fun c y hy => ?_, fun c hc => ?_⟩
    · by_cases hcn : c = h.next
      · rw [DHeap.get_new, hnx, if_pos hcn] at hc
        cases hc
        exact ⟨x', by unfold Env.add; rw [if_pos hcn], hobj⟩
      · obtain ⟨h1, h2⟩ := hold c o1 hc hcn
        obtain ⟨y, hy, hob⟩ := r.obj c o1 h1
        exact ⟨y, hle _ _ hy, (hob.mono hle).block (hb _ fun e' => h2 (r.inj c b o1 o y x h1 hg (.inr hro) hy hx e'))⟩
    · unfold Env.add at h3 h4
      by_cases hcn : c = h.next
      · by_cases hcn' : c' = h.next
        · omega
        · rw [if_pos hcn] at h3
          rw [if_neg hcn'] at h4
          cases h3
          obtain ⟨k1, k2⟩ := hold c' o2 h2 hcn'
          exact absurd (r.inj c' b o2 o y' x k1 hg (.inr hro) h4 hx (by rw [← h5, hblk])) k2
      · by_cases hcn' : c' = h.next
        · rw [if_neg hcn] at h3
          rw [if_pos hcn'] at h4
          cases h4
          obtain ⟨k1, k2⟩ := hold c o1 h1 hcn
          exact absurd (r.inj c b o1 o y x k1 hg (.inr hro) h3 hx (by rw [h5, hblk])) k2
        · rw [if_neg hcn] at h3
          rw [if_neg hcn'] at h4
          exact r.inj c c' o1 o2 y y' (hold c o1 h1 hcn).1 (hold c' o2 h2 hcn').1 hr0 h3 h4 h5
    · unfold Env.add at hy
      by_cases hcn : c = h.next
      · rw [if_pos hcn] at hy
        cases hy
        rw [hs, hblk]
        exact r.lt b x hx
      · rw [if_neg hcn] at hy
        rw [hs]; exact r.lt c y hy
    · have hc' : h.next + 1 ≤ c := hc
      unfold Env.add
      rw [if_neg (by omega)]
      exact r.new c (by omega)

section
variable {P : Program} {e : Env} {t : Fr} {a : Act} {h : DHeap} {w : World} {o : Oper} {D : DProg} {nx : Nx}

/-- the cells of a slice, at the address that the model has -/
theorem cells_at {w : World} {x : Ent} {o' z cap n sz : Nat} {tg : Bool} {rs : List Value} (hr : w.rangeAt x.blk (x.base + o') rs) (hlen : rs.length = n * sz) (hlc : n ≤ cap) :
    ∀ j u, rs[j]? = some u → w.cell? ((⟨x.blk, x.base + (if (if tg = true then cap else cap + x.sp) = 0 then z else o'), none⟩ : Addr).add j) = some u := fun j u hj => by
  have hjl := (List.getElem?_eq_some_iff.1 hj).1
  have hn : n ≠ 0 := fun e => by rw [e] at hlen; simp at hlen; rw [hlen] at hjl; simp at hjl
  rw [if_neg (by cases tg <;> simp <;> omega), Addr.add_mid]
  exact hr j u hj
/-- what is appended -/
theorem src_ok {sz m : Nat} {y : DV} {vy : Value} {tx : TypeId} {new : List DV} (r : Rep e h w) (hy : val e y = some vy) (hk : (∃ e', P.underlying tx = some (.slice e')) ∨ P.underlying tx = some .string) (hl : lenD y = some m) (hs : srcD h sz m y = some new) (h1 : new.all DV.one = true) :
    ∃ rs, vals e new = some rs ∧ Src P sz tx vy m rs w := by
  cases y with
  | nilSlice =>
    simp only [lenD, Option.some.injEq] at hl
    simp only [srcD, Option.some.injEq] at hs
    subst hl; subst hs
    simp only [val, Option.some.injEq] at hy
    subst hy
    exact ⟨[], rfl, hk, fun _ => rfl, run_firstCells_none w sz 0 0 0, run_firstCells_none w.drew sz 0 0 0, by simp, fun _ h => by cases h⟩
  | slice b o' z len cap tg =>
    simp only [lenD, Option.some.injEq] at hl
    subst hl
    simp only [srcD] at hs
    split at hs
    case isFalse => cases hs
    next hlc =>
    obtain ⟨x, rs, hx, hv, hr, hlen⟩ := load_cells r hs
    obtain ⟨x', hx', hvy⟩ := slice_val hy
    rw [hx] at hx'
    cases hx'
    have hcell : ∀ j u, rs[j]? = some u → w.cell? ((⟨x.blk, x.base + (if (if tg = true then cap else cap + x.sp) = 0 then z else o'), none⟩ : Addr).add j) = some u := cells_at hr hlen hlc
    exact ⟨rs, hv, hk, by rw [hvy]; exact fun _ => rfl, by rw [hvy]; exact run_firstCells_some w sz len _ len _ rs hlen hcell, by rw [hvy]; exact run_firstCells_some w.drew sz len _ len _ rs hlen (by simpa using hcell), hlen, ones_val hv h1⟩
  | str s =>
    simp only [lenD, Option.some.injEq] at hl
    subst hl
    simp only [srcD] at hs
    split at hs
    · next hsz =>
      subst hsz
      simp only [Option.some.injEq, List.take_length] at hs
      subst hs
      simp only [val, Option.some.injEq] at hy
      subst hy
      have hv : vals e (s.map fun b => DV.int .u8 b.toNat) = some (byteCells ⟨s.toArray⟩) := by
        unfold byteCells
        show vals e (s.map fun b => DV.int .u8 b.toNat) = some (s.map fun b => Value.int .u8 b.toNat)
        clear h1
        induction s with
        | nil => rfl
        | cons b s ih => exact vals_cons_of rfl ih
      have := Src.ofString (P := P) w (tx := tx)
      refine ⟨_, hv, hk, fun _ => ?_, ?_, ?_, ?_, ones_val hv h1⟩
      · show Result.ok _ _ = _; rw [size_list]
      · have := firstCells_string (P := P) ⟨s.toArray⟩ w; rwa [size_list] at this
      · have := firstCells_string (P := P) ⟨s.toArray⟩ w.drew; rwa [size_list] at this
      · rw [byteCells_length, size_list]; omega
    · cases hs
  | _ => simp [lenD] at hl

theorem Src.one {sz n : Nat} {tx : TypeId} {x : Value} {rs : List Value} (s : Src P sz tx x n rs w) : ∀ v ∈ rs, v.oneCell' = true := s.one
set_option maxHeartbeats 1000000 in
theorem append_ok {sz bytes : Nat} {x y v : DV} {vx vy : Value} {T tx ty el : TypeId} {i : TypeInfo} {zv : Value} {h' : DHeap} (r : Rep e h w) (hx : val e x = some vx) (hy : val e y = some vy) (hT : P.underlying T = some (.slice el)) (hk : (∃ e', P.underlying tx = some (.slice e')) ∨ P.underlying tx = some .string)
    (hi : P.info? el = some i) (hsz : i.size = sz) (hby : i.bytes = bytes) (hz : i.zero = some zv) (hzs : zv.cells.size = sz) (ha : appendD h sz bytes x y = some (v, h')) :
    ∃ e' w' rv, Step e h w e' h' w' ∧ (Builtin.append_ #[T, tx] ty #[vx, vy]).run P w = .ok rv w' ∧ val e' v = some rv := by
  unfold appendD at ha
  split at ha
  · cases ha
  next m hm =>
  split at ha
  · cases ha
  next new hnew =>
  split at ha
  · cases ha
  next hone =>
  have hone : new.all DV.one = true := by simpa using hone
  obtain ⟨rs, hrs, hsrc⟩ := src_ok (P := P) (tx := tx) r hy hk hm hnew hone
  have hrl := vals_length hrs
  have hge : ∀ need old, need ≤ grownCap w need old el := fun need old => grownCap_ge w need old el
  subst hsz hby
  split at ha
  · -- nil
    simp only [val, Option.some.injEq] at hx
    subst hx
    split at ha
    · next hm0 =>
      cases ha
      subst hm0
      refine ⟨e, w, .slice none 0 0, Step.refl r, ?_, rfl⟩
      rcases hk with ⟨e', hk⟩ | hk <;> simp [Builtin.append_, run_underlying hT, run_underlying hk, sizeOf, typeInfo, hi, hsrc.len, hsrc.cells]
    · next hm0 =>
      split at ha
      · next hb =>
        cases ha
        have hr := run_append_grow_src w T tx ty el i zv hT hi hz none 0 0 [] (run_firstCells_none _ _ _ _ _) vy m rs hsrc (by omega) (by omega) (growslice_fits (by omega) (by rw [Nat.zero_add]; omega))
        simp only [Nat.zero_add, List.nil_append] at hr
        have hst : Step e h w (e.add h.next ⟨w.heap.size, 0, grownCap w m 0 el - m, i.size⟩) (h.new (.cells new false i.size)) (w.drew.alloc (.cells (rs.toArray ++ Builtin.zeroCells zv.cells (grownCap w m 0 el - m)) el)) := by
          refine Step.new r ⟨w.heap.size, 0, _, _⟩ rfl (by simp) rfl rfl rfl (fun B hB => alloc_old w.drew _ hB) ?_
          refine objAt_new (rs := rs) (more := (Builtin.zeroCells zv.cells (grownCap w m 0 el - m)).toList) (T := el) (lo := 0) (hi := 0) (vals_mono (Env.le_add (r.new _ (Nat.le_refl _)) _) _ _ hrs) ?_ rfl ?_ (.inl rfl)
          · have := alloc_last w.drew (.cells (rs.toArray ++ Builtin.zeroCells zv.cells (grownCap w m 0 el - m)) el)
            rw [show (rs ++ (Builtin.zeroCells zv.cells (grownCap w m 0 el - m)).toList).toArray = rs.toArray ++ Builtin.zeroCells zv.cells (grownCap w m 0 el - m) by apply Array.ext'; simp]
            exact this
          · simp [size_zeroCells, hzs]
        refine ⟨_, _, _, hst, hr, ?_⟩
        simp only [val, Env.add, if_true, Bool.false_eq_true, if_false]
        have h1 := hge m 0
        rw [show m + (grownCap w m 0 el - m) = grownCap w m 0 el by omega]
        simp
      · cases ha
  · -- a slice
    next b o' z len cap tg =>
    obtain ⟨y, hyb, hvx⟩ := slice_val hx
    obtain ⟨c, hc⟩ : ∃ c, c = (if tg = true then cap else cap + y.sp) := ⟨_, rfl⟩
    rw [← hc] at hvx
    have hcc : cap ≤ c := by rw [hc]; split <;> omega
    split at ha
    · next hroom =>
      split at ha
      · next hm0 =>
        cases ha
        subst hm0
        have hrs0 : rs = [] := List.length_eq_zero_iff.1 (by rw [hsrc.newsLen]; simp)
        subst hrs0
        have := run_append_room_src w T tx ty el i hT hi y.blk (y.base + (if c = 0 then z else o')) len c vy 0 [] hsrc (by omega) (by simp) (by simp)
        rw [← hvx] at this
        exact ⟨e, w, vx, Step.refl r, by rw [this, hvx]; rfl, hx⟩
      · next hm0 =>
        split at ha
        · next h1 hst =>
          cases ha
          obtain ⟨y', hy', hth, _, hstep⟩ := store_cells r hrs hst
          rw [hyb] at hy'
          cases hy'
          have hc0 : c ≠ 0 := by omega
          have := run_append_room_src w T tx ty el i hT hi y.blk (y.base + o') len c vy m rs hsrc (by omega)
            (fun j hj => by have := (hth j hj).1; rwa [← Nat.add_assoc] at this) (fun j hj => by have := (hth j hj).2; rwa [← Nat.add_assoc] at this)
          rw [if_neg hc0] at hvx
          rw [← hvx] at this
          rw [Nat.add_assoc] at this
          refine ⟨e, _, _, hstep, this, ?_⟩
          simp only [val, hyb, ← hc]
          rw [if_neg hc0]
        · cases ha
    · next hroom =>
      split at ha
      · next hbd =>
        split at ha
        · cases ha
        · next old hold =>
          split at hold
          case isFalse => cases hold
          next hlc =>
          obtain ⟨y', os, hy', hov, hor, hol⟩ := load_cells r hold
          rw [hyb] at hy'
          cases hy'
          have hcells := cells_at (tg := tg) (z := z) hor hol hlc
          rw [← hc] at hcells
          have hfc : (Builtin.firstCells i.size len (.slice (some ⟨y.blk, y.base + (if c = 0 then z else o'), none⟩) len c)).run P w.drew = .ok os.toArray w.drew := run_firstCells_some w.drew i.size len _ len c os hol (by simpa using hcells)
          -- the arm that grows
          have hgrow : c < len + m → ∃ e' w' rv, Step e h w e' (h.new (.cells (old ++ new) false i.size)) w' ∧ (Builtin.append_ #[T, tx] ty #[vx, vy]).run P w = .ok rv w' ∧ val e' (.slice h.next 0 0 (len + m) (len + m) false) = some rv := fun hg => by
            have hr := run_append_grow_src w T tx ty el i zv hT hi hz _ len c os hfc vy m rs hsrc hg (by omega) (growslice_fits hg (by omega))
            rw [← hvx] at hr
            have hst : Step e h w (e.add h.next ⟨w.heap.size, 0, grownCap w (len + m) c el - (len + m), i.size⟩) (h.new (.cells (old ++ new) false i.size)) (w.drew.alloc (.cells ((os ++ rs).toArray ++ Builtin.zeroCells zv.cells (grownCap w (len + m) c el - (len + m))) el)) := by
              refine Step.new r ⟨w.heap.size, 0, _, _⟩ rfl (by simp) rfl rfl rfl (fun B hB => alloc_old w.drew _ hB) ?_
              refine objAt_new (rs := os ++ rs) (more := (Builtin.zeroCells zv.cells (grownCap w (len + m) c el - (len + m))).toList) (T := el) (lo := 0) (hi := 0) (vals_mono (Env.le_add (r.new _ (Nat.le_refl _)) _) _ _ (vals_append hov hrs)) ?_ rfl ?_ (.inl rfl)
              · have := alloc_last w.drew (.cells ((os ++ rs).toArray ++ Builtin.zeroCells zv.cells (grownCap w (len + m) c el - (len + m))) el)
                rw [show (os ++ rs ++ (Builtin.zeroCells zv.cells (grownCap w (len + m) c el - (len + m))).toList).toArray = (os ++ rs).toArray ++ Builtin.zeroCells zv.cells (grownCap w (len + m) c el - (len + m)) by apply Array.ext'; simp]
                exact this
              · simp [size_zeroCells, hzs]
            refine ⟨_, _, _, hst, hr, ?_⟩
            simp only [val, Env.add, if_true, Bool.false_eq_true, if_false]
            have h1 := hge (len + m) c
            rw [show len + m + (grownCap w (len + m) c el - (len + m)) = grownCap w (len + m) c el by omega]
            simp
          split at ha
          · next htg =>
            cases ha
            subst htg
            exact hgrow (by rw [hc]; simp; omega)
          · next htg =>
            split at ha
            · next hrow =>
              cases ha
              have htg : tg = false := by simpa using htg
              subst htg
              simp only [Bool.false_eq_true, if_false] at hc
              by_cases hg : c < len + m
              · -- a new row
                have hk' := r.kill b
                have hr := run_append_grow_src w T tx ty el i zv hT hi hz _ len c os hfc vy m rs hsrc hg (by omega) (growslice_fits hg (by omega))
                rw [← hvx] at hr
                have hst : Step e (h.kill b) w (e.add h.next ⟨w.heap.size, 0, grownCap w (len + m) c el - (len + m), i.size⟩) ((h.kill b).new (.cells (old ++ new) false i.size)) (w.drew.alloc (.cells ((os ++ rs).toArray ++ Builtin.zeroCells zv.cells (grownCap w (len + m) c el - (len + m))) el)) := by
                  refine Step.new hk' ⟨w.heap.size, 0, _, _⟩ rfl (by simp) rfl rfl rfl (fun B hB => alloc_old w.drew _ hB) ?_
                  refine objAt_new (rs := os ++ rs) (more := (Builtin.zeroCells zv.cells (grownCap w (len + m) c el - (len + m))).toList) (T := el) (lo := 0) (hi := 0) (vals_mono (Env.le_add (r.new _ (Nat.le_refl _)) _) _ _ (vals_append hov hrs)) ?_ rfl ?_ (.inl rfl)
                  · have := alloc_last w.drew (.cells ((os ++ rs).toArray ++ Builtin.zeroCells zv.cells (grownCap w (len + m) c el - (len + m))) el)
                    rw [show (os ++ rs ++ (Builtin.zeroCells zv.cells (grownCap w (len + m) c el - (len + m))).toList).toArray = (os ++ rs).toArray ++ Builtin.zeroCells zv.cells (grownCap w (len + m) c el - (len + m)) by apply Array.ext'; simp]
                    exact this
                  · simp [size_zeroCells, hzs]
                refine ⟨_, _, _, hst.ofKill, hr, ?_⟩
                have hnx : (h.kill b).next = h.next := rfl
                simp only [val, Env.add, hnx, if_true, Bool.false_eq_true, if_false]
                have h1 := hge (len + m) c
                rw [show len + m + (grownCap w (len + m) c el - (len + m)) = grownCap w (len + m) c el by omega]
                simp
              · -- in place
                unfold rowIs at hrow
                split at hrow
                case h_2 => cases hrow
                next cs k hgb =>
                simp only [Bool.and_eq_true, decide_eq_true_eq] at hrow
                obtain ⟨hrow, hks⟩ := hrow
                subst hks
                obtain ⟨y', hy', hob⟩ := r.obj b _ hgb
                rw [hyb] at hy'
                cases hy'
                obtain ⟨qs, hqv, hqr, hqt, hysz, hun⟩ := hob
                have hqt := hqt rfl
                have hc0 : c ≠ 0 := by omega
                rw [if_neg hc0] at hvx
                have hmul : (len + m) * i.size ≤ (cap + y.sp) * i.size := Nat.mul_le_mul_right _ (by omega)
                rw [Nat.add_mul, Nat.add_mul] at hmul
                have hnl := hsrc.newsLen
                have hth : ∀ j, j < rs.length → (w.cell? ⟨y.blk, y.base + o' + len * i.size + j, none⟩).isSome = true ∧ w.frozen? ⟨y.blk, y.base + o' + len * i.size + j, none⟩ = false := fun j hj => by
                  have := hqt (o' + len * i.size + j) (by rw [hysz, hrow]; omega)
                  rwa [show y.base + (o' + len * i.size + j) = y.base + o' + len * i.size + j by omega] at this
                have hr := run_append_room_src w T tx ty el i hT hi y.blk (y.base + o') len c vy m rs hsrc (by omega) (fun j hj => (hth j hj).1) (fun j hj => (hth j hj).2)
                rw [← hvx] at hr
                obtain ⟨k1, k2, k3, k4, k5⟩ := setCells_heap y.blk rs (y.base + o' + len * i.size) w
                have hst : Step e h w (e.add h.next ⟨y.blk, y.base + o', c - (len + m), i.size⟩) ((h.kill b).new (.cells (old ++ new) false i.size)) (w.setCells y.blk (y.base + o' + len * i.size) rs) := by
                  refine Step.move r hgb rfl hyb rfl k1 k2 k3 k4 k5 ⟨os ++ rs, vals_mono (Env.le_add (r.new _ (Nat.le_refl _)) _) _ _ (vals_append hov hrs), fun j v hj => ?_, fun _ j hj => ?_, rfl, fun _ => (hun rfl).setCells _ _⟩
                  · by_cases hjo : j < os.length
                    · rw [List.getElem?_append_left hjo] at hj
                      show (w.setCells _ _ _).cell? ⟨y.blk, y.base + o' + j, none⟩ = some v
                      rw [World.cell?_setCells_out y.blk rs _ w _ (fun _ _ => .inl (by show y.base + o' + j < _; omega))]
                      exact hor j v hj
                    · rw [List.getElem?_append_right (by omega)] at hj
                      have hjl := (List.getElem?_eq_some_iff.1 hj).1
                      have := World.cell?_setCells_in y.blk rs (y.base + o' + len * i.size) w (fun j hj => (hth j hj).1) (j - os.length) hjl
                      show (w.setCells _ _ _).cell? ⟨y.blk, y.base + o' + j, none⟩ = some v
                      rw [show y.base + o' + len * i.size + (j - os.length) = y.base + o' + j by omega] at this
                      rw [this, ← hj, List.getElem?_eq_getElem]
                  · have hlen2 : (old ++ new).length = (len + m) * i.size := by rw [List.length_append, ← vals_length hov, ← hrl, hol, hnl, Nat.add_mul]
                    have hj' : j < (old ++ new).length + (c - (len + m)) * i.size := hj
                    rw [hlen2, ← Nat.add_mul, show len + m + (c - (len + m)) = c by omega, hc, Nat.add_mul] at hj'
                    have := hqt (o' + j) (by rw [hysz, hrow]; omega)
                    rw [← Nat.add_assoc] at this
                    exact ⟨World.isSome_setCells _ _ _ _ _ this.1, by rw [World.frozen?_setCells]; exact this.2⟩
                refine ⟨_, _, _, hst, hr, ?_⟩
                have hnx : (h.kill b).next = h.next := rfl
                simp only [val, Env.add, hnx, if_true, Bool.false_eq_true, if_false, hvx]
                rw [show len + m + (c - (len + m)) = c by omega]
                simp [hc0]
            · cases ha
      · cases ha
  · -- a clipped slice
    next b o' z =>
    obtain ⟨y, hyb, hvx⟩ : ∃ y, e b = some y ∧ vx = .slice (some ⟨y.blk, y.base + (if y.sp = 0 then z else o'), none⟩) 0 0 := by
      cases hb : e b with
      | none => simp [val, hb] at hx
      | some y => simp only [val, hb, Option.some.injEq] at hx; exact ⟨y, rfl, hx.symm⟩
    split at ha
    · next hm0 =>
      cases ha
      subst hm0
      have hrs0 : rs = [] := List.length_eq_zero_iff.1 (by rw [hsrc.newsLen]; simp)
      subst hrs0
      have := run_append_room_src w T tx ty el i hT hi y.blk (y.base + (if y.sp = 0 then z else o')) 0 0 vy 0 [] hsrc (by omega) (by simp) (by simp)
      rw [← hvx] at this
      exact ⟨e, w, vx, Step.refl r, by rw [this, hvx]; rfl, hx⟩
    · next hm0 =>
      split at ha
      · next hb =>
        cases ha
        have hfc : (Builtin.firstCells i.size 0 (.slice (some ⟨y.blk, y.base + (if y.sp = 0 then z else o'), none⟩) 0 0)).run P w.drew = .ok ([] : List Value).toArray w.drew := run_firstCells_some w.drew i.size 0 _ 0 0 [] (by simp) (by simp)
        have hr := run_append_grow_src w T tx ty el i zv hT hi hz _ 0 0 [] hfc vy m rs hsrc (by omega) (by omega) (growslice_fits (by omega) (by rw [Nat.zero_add]; omega))
        rw [← hvx] at hr
        simp only [Nat.zero_add, List.nil_append] at hr
        have hst : Step e h w (e.add h.next ⟨w.heap.size, 0, grownCap w m 0 el - m, i.size⟩) (h.new (.cells new false i.size)) (w.drew.alloc (.cells (rs.toArray ++ Builtin.zeroCells zv.cells (grownCap w m 0 el - m)) el)) := by
          refine Step.new r ⟨w.heap.size, 0, _, _⟩ rfl (by simp) rfl rfl rfl (fun B hB => alloc_old w.drew _ hB) ?_
          refine objAt_new (rs := rs) (more := (Builtin.zeroCells zv.cells (grownCap w m 0 el - m)).toList) (T := el) (lo := 0) (hi := 0) (vals_mono (Env.le_add (r.new _ (Nat.le_refl _)) _) _ _ hrs) ?_ rfl ?_ (.inl rfl)
          · have := alloc_last w.drew (.cells (rs.toArray ++ Builtin.zeroCells zv.cells (grownCap w m 0 el - m)) el)
            rw [show (rs ++ (Builtin.zeroCells zv.cells (grownCap w m 0 el - m)).toList).toArray = rs.toArray ++ Builtin.zeroCells zv.cells (grownCap w m 0 el - m) by apply Array.ext'; simp]
            exact this
          · simp [size_zeroCells, hzs]
        refine ⟨_, _, _, hst, hr, ?_⟩
        simp only [val, Env.add, if_true, Bool.false_eq_true, if_false]
        have h1 := hge m 0
        rw [show m + (grownCap w m 0 el - m) = grownCap w m 0 el by omega]
        simp
      · cases ha
  · cases ha
end
end Go.Dx
