/- D: operations on memory. -/
import Derived.Test.YtfdplefijefeiaaGreatDoorZ9
namespace Go.Dx
open Go

theorem run_newRow {P : Program} (T : TypeId) (c : Array Value) (w : World) : (newRow T c).run P w = .ok ⟨w.heap.size, 0, none⟩ (w.alloc (.cells c T)) := rfl
theorem run_newVar {P : Program} (T : TypeId) (v : Value) (w : World) : (newVar T v).run P w = .ok ⟨w.heap.size, 0, none⟩ (w.alloc (.cells v.cells T)) := rfl

section
variable {P : Program} {e : Env} {t : Fr} {a : Act} {h : DHeap} {w : World} {o : Oper} {D : DProg} {nx : Nx}

theorem ok_alloc {T : TypeId} (r : Rep e h w) (ho : o.op = .alloc T) {z : DV} (hz : zeroT P T = some z) (hn : opD D t h (.alloc z.cells) = some nx) : NxOk P e h w (execOp a.eval o) nx := by
  simp only [opD, Option.some.injEq] at hn
  subst hn
  obtain ⟨v, h1, h2⟩ := run_zeroT hz e w
  have hst := step_new_cells r (cells_val h2) [] T 0 0 (by simp)
  refine ⟨_, _, hst, .inl ⟨.pointer (some ⟨w.heap.size, 0, none⟩), ?_, add_ptr ..⟩⟩
  simp [execOp, ho, Instr.alloc, Sem.run_bind, h1, run_newVar]
theorem ok_box {T : TypeId} {x : Operand} (hg : Glob P e) (hf : FrR e t a.tmps) (r : Rep e h w) (ho : o.op = .box T x) {x' : Opd} (hx : opdD P x = some x') (hn : opD D t h (.box x') = some nx) : NxOk P e h w (execOp a.eval o) nx := by
  have vx := opd_ok hg hf hx
  simp only [opD, Option.some.injEq] at hn
  subst hn
  have hst := step_new_cells r (cells_val vx) [] T 0 0 (by simp)
  refine ⟨_, _, hst, .inl ⟨.pointer (some ⟨w.heap.size, 0, none⟩), ?_, add_ptr ..⟩⟩
  simp [execOp, ho, Instr.box, Sem.run_bind, run_newVar]
theorem ptr_val {b o : Nat} {v : Value} (hv : val e (.ptr b o) = some v) : ∃ x, e b = some x ∧ v = .pointer (some ⟨x.blk, x.base + o, none⟩) := by
  cases hb : e b with
  | none => simp [val, hb] at hv
  | some x => simp only [val, hb, Option.some.injEq] at hv; exact ⟨x, rfl, hv.symm⟩
theorem ok_load1 {T : TypeId} {x : Operand} {d : TypeDesc} (hg : Glob P e) (hf : FrR e t a.tmps) (r : Rep e h w) (ho : o.op = .load T x) (hu : P.underlying T = some d) (hT : isAggT P T = false) {x' : Opd} (hx : opdD P x = some x') (hn : opD D t h (.load1 x') = some nx) : NxOk P e h w (execOp a.eval o) nx := by
  have vx := opd_ok hg hf hx
  simp only [opD] at hn
  split at hn
  · next b o' hb =>
    rw [hb] at vx
    obtain ⟨y, hy, hv⟩ := ptr_val vx
    split at hn
    · next v hl =>
      cases hn
      obtain ⟨y', rs, hy', hvs, hr, _⟩ := load_cells r hl
      rw [hy] at hy'
      cases hy'
      obtain ⟨rv, rs', rfl, h1, _⟩ := vals_cons hvs
      have hc : w.cell? ⟨y.blk, y.base + o', none⟩ = some rv := by have := hr 0 rv rfl; rwa [Nat.add_zero] at this
      refine .pure r (rv := rv) ?_ h1
      simp [execOp, ho, hv, Instr.loadAt, Instr.sureAddr, loadVar, Sem.run_bind, run_isAggT hu, hT, load, Sem.run, hc]
    · cases hn
  · cases hn
theorem run_loadN {T : TypeId} {d : TypeDesc} {n : Nat} (hu : P.underlying T = some d) (hT : isAggT P T = true) (hs : sizeT P T = some n) {B off : Nat} {rs : List Value} (hr : w.rangeAt B off rs) (hl : rs.length = n) : (loadVar T ⟨B, off, none⟩).run P w = .ok (.agg rs.toArray) w := by
  have hd : d.isRow = true := by unfold isAggT at hT; rw [hu] at hT; cases d <;> first | rfl | cases hT
  exact run_loadVar_mid w B off T rs d hr hu hd (by rw [hl]; exact hs)
theorem ok_loadN {T : TypeId} {x : Operand} {d : TypeDesc} {n : Nat} (hg : Glob P e) (hf : FrR e t a.tmps) (r : Rep e h w) (ho : o.op = .load T x) (hu : P.underlying T = some d) (hT : isAggT P T = true) (hs : sizeT P T = some n) {x' : Opd} (hx : opdD P x = some x') (hn : opD D t h (.loadN n x') = some nx) : NxOk P e h w (execOp a.eval o) nx := by
  have vx := opd_ok hg hf hx
  simp only [opD] at hn
  split at hn
  · next b o' hb =>
    rw [hb] at vx
    obtain ⟨y, hy, hv⟩ := ptr_val vx
    split at hn
    · next cs hl =>
      cases hn
      obtain ⟨y', rs, hy', hvs, hr, hlen⟩ := load_cells r hl
      rw [hy] at hy'
      cases hy'
      refine .pure r (rv := .agg rs.toArray) ?_ (by simp only [val, hvs])
      simp [execOp, ho, hv, Instr.loadAt, Instr.sureAddr, Sem.run_bind, run_loadN hu hT hs hr hlen]
    · cases hn
  · cases hn
theorem run_store {T : TypeId} {n : Nat} (hs : sizeT P T = some n) {B off : Nat} {v : Value} {rs : List Value} (hc : v.cells.toList = rs) (hl : rs.length = n) (ht : w.there B off rs.length) (h1 : ∀ v ∈ rs, v.oneCell' = true) : (storeVar T ⟨B, off, none⟩ v).run P w = .ok () (w.setCells B off rs) := by
  have := run_storeCells_cells (P := P) B off rs 0 w (fun j hj => by simpa using (ht j hj).1) (fun j hj => by simpa using (ht j hj).2) h1
  rw [Nat.add_zero] at this
  have hsz : v.cells.size = n := by rw [← hl, ← hc]; simp
  unfold storeVar
  simp only [Sem.run_bind, run_sizeT hs, Result.andThen_ok]
  simp [hsz, hc, this]
theorem ok_store {T : TypeId} {x y : Operand} {n : Nat} (hg : Glob P e) (hf : FrR e t a.tmps) (r : Rep e h w) (ho : o.op = .store T x y) (hs : sizeT P T = some n) {x' y' : Opd} (hx : opdD P x = some x') (hy : opdD P y = some y') (hn : opD D t h (.store n x' y') = some nx) : NxOk P e h w (execOp a.eval o) nx := by
  have vx := opd_ok hg hf hx
  have vy := opd_ok hg hf hy
  simp only [opD] at hn
  split at hn
  · next b o' hb =>
    rw [hb] at vx
    obtain ⟨z, hz, hv⟩ := ptr_val vx
    split at hn
    · next hlen =>
      split at hn
      · next h' hst =>
        cases hn
        have hcv := cells_val vy
        obtain ⟨z', hz', ht, h1, hstep⟩ := store_cells r hcv hst
        rw [hz] at hz'
        cases hz'
        refine ⟨e, _, hstep, .inr ⟨?_, rfl⟩⟩
        have hl : (a.eval y).cells.toList.length = n := by rw [vals_length hcv]; exact hlen
        simp [execOp, ho, hv, Instr.storeAt, Instr.sureAddr, Sem.run_bind, run_store hs rfl hl ht h1]
      · cases hn
    · cases hn
  · cases hn
theorem ok_mkMap {T : TypeId} (r : Rep e h w) (ho : o.op = .makeMap T none) (hn : opD D t h .mkMap = some nx) : NxOk P e h w (execOp a.eval o) nx := by
  simp only [opD, Option.some.injEq] at hn
  subst hn
  have hst : Step e h w (e.add h.next ⟨w.heap.size, 0, 0, 1⟩) (h.new (.map [] 0)) (w.alloc (.map #[] 0)) :=
    Step.new r ⟨w.heap.size, 0, 0, 1⟩ rfl (by simp) rfl rfl rfl (fun B hB => alloc_old w _ hB) ⟨[], rfl, alloc_last w _⟩
  refine ⟨_, _, hst, .inl ⟨.map (some w.heap.size), ?_, by simp [val, Env.add]⟩⟩
  simp [execOp, ho, Instr.makeMap]
end
end Go.Dx
