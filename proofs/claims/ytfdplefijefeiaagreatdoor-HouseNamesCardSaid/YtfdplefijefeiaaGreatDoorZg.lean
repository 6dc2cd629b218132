/- D: operations on maps. -/
import Derived.Test.YtfdplefijefeiaaGreatDoorZf
namespace Go.Dx
open Go

section
variable {P : Program} {e : Env} {t : Fr} {a : Act} {h : DHeap} {w : World} {o : Oper} {D : DProg} {nx : Nx}

theorem run_checkKey {ks : Bool} {kt : TypeId} {kind : TypeDesc} (hu : P.underlying kt = some kind) (hk : keyKind ks kind) (em : Bool) (v : Value) (w : World) : (Instr.checkKey em 10000 kt v).run P w = .ok () w := by
  rw [show (10000 : Nat) = 9999 + 1 from rfl]
  unfold Instr.checkKey
  rw [Sem.run_bind, run_underlying hu]
  cases ks with
  | true =>
    obtain rfl : kind = .string := (by simpa [keyKind] using hk)
    cases v <;> rfl
  | false =>
    obtain ⟨k, rfl⟩ : ∃ k, kind = .int k := (by simpa [keyKind] using hk)
    cases v <;> rfl
theorem run_findKey {kt : TypeId} {kind : TypeDesc} (hu : P.underlying kt = some kind) {vk : Value} {ms : List MapEntry} {q : Option (Nat × Value)} (hf : Instr.findNow kind vk ms 0 = some q) (w : World) : (Instr.findKey kt vk ms).run P w = .ok q w := by
  unfold Instr.findKey
  rw [Sem.run_bind, run_underlying hu]
  show Sem.run P (match Instr.findNow kind vk ms 0 with | some r => pure r | none => _) w = _
  rw [hf]
  rfl
theorem map_val {r : Nat} {v : Value} (hv : val e (.map r) = some v) : ∃ x, e r = some x ∧ v = .map (some x.blk) := by
  cases hb : e r with
  | none => simp [val, hb] at hv
  | some x => simp only [val, hb, Option.some.injEq] at hv; exact ⟨x, rfl, hv.symm⟩
theorem map_obj (r : Rep e h w) {m : Nat} {es : List (DV × DV × Nat)} {cl : Nat} (hg : h.get m = some (.map es cl)) : ∃ x ms, e m = some x ∧ ents e es = some ms ∧ w.heap[x.blk]? = some (.map ms.toArray cl) := by
  obtain ⟨x, hx, ms, h1, h2⟩ := r.obj m _ hg
  exact ⟨x, ms, hx, h1, h2⟩
theorem run_getMap {B : Nat} {ms : Array MapEntry} {cl : Nat} (hb : w.heap[B]? = some (.map ms cl)) : (getObj B).run P w = .ok (.map ms cl) w := by
  simp [getObj, Sem.run, hb]
theorem run_setMap {B : Nat} {o o' : Obj} (hb : w.heap[B]? = some o) (hn : ∀ a b c, o ≠ .cells a b c) : (setObj B o').run P w = .ok () { w with heap := w.heap.setIfInBounds B o' } := by
  simp only [setObj, Sem.run, hb]
theorem setObj_step (r : Rep e h w) {m : Nat} {x : Ent} {o o' : DObj} {ob' : Obj} (hg : h.get m = some o) (hro : o.ro = false) (hro' : o'.ro = false) (hx : e m = some x) (hobj : objAt e { w with heap := w.heap.setIfInBounds x.blk ob' } x o') :
    Step e h w e (h.put m o') { w with heap := w.heap.setIfInBounds x.blk ob' } :=
  Step.put r hg hro hro' hx (by simp) rfl rfl rfl (fun B hB => by
    show (w.heap.setIfInBounds x.blk ob')[B]? = _
    rw [Array.getElem?_setIfInBounds_ne (fun e => hB e.symm)]) hobj
theorem setObj_at {B : Nat} (hlt : B < w.heap.size) (ob' : Obj) : ({ w with heap := w.heap.setIfInBounds B ob' } : World).heap[B]? = some ob' := by
  show (w.heap.setIfInBounds B ob')[B]? = _
  rw [Array.getElem?_setIfInBounds_self_of_lt hlt]

theorem put_map (r : Rep e h w) {rr : Nat} {x : Ent} {es es' : List (DV × DV × Nat)} {ms' : List MapEntry} {cl cl' : Nat} (hgr : h.get rr = some (.map es cl)) (hx : e rr = some x) (hms : ents e es' = some ms') (arr : Array MapEntry) (ha : arr = ms'.toArray) :
    Step e h w e (h.put rr (.map es' cl')) { w with heap := w.heap.setIfInBounds x.blk (.map arr cl') } :=
  setObj_step r hgr rfl rfl hx ⟨ms', hms, by rw [← ha]; exact setObj_at (r.lt rr x hx) _⟩
theorem mapFind_ok {T kt el : TypeId} {ks cok : Bool} {kind : TypeDesc} {z m k : DV} {vm vk zv : Value} {res : Option (DV × Nat)} (r : Rep e h w) (hT : P.underlying T = some (.map kt el)) (hu : P.underlying kt = some kind) (hk : keyKind ks kind) (hm : val e m = some vm) (hkk : val e k = some vk) (hz1 : (zeroValue el).run P w = .ok zv w) (hz2 : val e z = some zv)
    (hf : mapFind h ks m k = some res) : ∃ rv, (Instr.lookup T vm vk cok).run P w = .ok (if cok then .tuple #[rv, .bool res.isSome] else rv) w ∧ val e (foundOr z res) = some rv := by
  cases m with
  | nilMap =>
    simp only [mapFind, Option.some.injEq] at hf
    subst hf
    simp only [val, Option.some.injEq] at hm
    refine ⟨zv, ?_, hz2⟩
    have hfk := run_findKey (P := P) hu (vk := vk) (ms := []) (q := none) rfl w
    simp [Instr.lookup, ← hm, Sem.run_bind, run_underlying hT, run_checkKey hu hk, hfk, hz1]
  | map rr =>
    obtain ⟨x, hx, hv⟩ := map_val hm
    simp only [mapFind] at hf
    split at hf
    · next es cl hgr =>
      obtain ⟨x', ms, hx', hms, hb⟩ := map_obj r hgr
      rw [hx] at hx'
      cases hx'
      have hfo := find_ok hk hkk 0 hms hf
      cases res with
      | none =>
        refine ⟨zv, ?_, hz2⟩
        have hfk := run_findKey (P := P) hu hfo w
        simp [Instr.lookup, hv, Sem.run_bind, run_underlying hT, run_getMap hb, run_checkKey hu hk, hfk, hz1]
      | some p =>
        obtain ⟨v, n⟩ := p
        obtain ⟨i, rv, key, h1, h2, h3, _⟩ := hfo
        rw [Nat.zero_add] at h1
        refine ⟨rv, ?_, h2⟩
        have hfk := run_findKey (P := P) hu h1 w
        simp [Instr.lookup, hv, Sem.run_bind, run_underlying hT, run_getMap hb, run_checkKey hu hk, hfk]
    · cases hf
  | _ => simp [mapFind] at hf
theorem ok_lookup {T kt el : TypeId} {m k : Operand} {cok ks : Bool} {kind : TypeDesc} {z : DV} (hg : Glob P e) (hf : FrR e t a.tmps) (r : Rep e h w) (ho : o.op = .lookup T m k cok) (hT : P.underlying T = some (.map kt el)) (hu : P.underlying kt = some kind) (hk : keyKind ks kind) (hz : zeroT P el = some z)
    {m' k' : Opd} (hm : opdD P m = some m') (hkk : opdD P k = some k') (hn : opD D t h (.lookup ks z m' k' cok) = some nx) : NxOk P e h w (execOp a.eval o) nx := by
  obtain ⟨zv, hz1, hz2⟩ := run_zeroT hz e w
  simp only [opD] at hn
  split at hn
  · cases hn
  next res hres =>
  cases hn
  obtain ⟨rv, h1, h2⟩ := mapFind_ok (cok := cok) r hT hu hk (opd_ok hg hf hm) (opd_ok hg hf hkk) hz1 hz2 hres
  cases cok with
  | true =>
    refine .pure r (rv := .tuple #[rv, .bool res.isSome]) (by simp [execOp, ho, Sem.run_bind, h1]) ?_
    simp only [if_true, val, vals_cons_of h2 (show vals e [.bool res.isSome] = some [.bool res.isSome] from rfl)]
  | false =>
    refine .pure r (rv := rv) (by simp [execOp, ho, Sem.run_bind, h1]) ?_
    simpa using h2
theorem ok_mapUpdate {T kt el : TypeId} {m k v : Operand} {ks : Bool} {kind : TypeDesc} (hg : Glob P e) (hf : FrR e t a.tmps) (r : Rep e h w) (ho : o.op = .mapUpdate T m k v ∨ o.op = .insert T m k v) (hT : P.underlying T = some (.map kt el)) (hu : P.underlying kt = some kind) (hk : keyKind ks kind)
    {m' k' v' : Opd} (hm : opdD P m = some m') (hkk : opdD P k = some k') (hv : opdD P v = some v') (hn : opD D t h (.mapUpdate ks m' k' v') = some nx) : NxOk P e h w (execOp a.eval o) nx := by
  have vm := opd_ok hg hf hm
  have vk := opd_ok hg hf hkk
  have vv := opd_ok hg hf hv
  have hx : execOp a.eval o = (do Instr.mapUpdate T (a.eval m) (a.eval k) (a.eval v); pure .skip) := by rcases ho with ho | ho <;> simp [execOp, ho]
  rw [hx]
  simp only [opD] at hn
  split at hn
  · next rr hmv =>
    rw [hmv] at vm
    obtain ⟨x, hx, hvm⟩ := map_val vm
    split at hn
    · next es cl hgr =>
      obtain ⟨x', ms, hx', hms, hb⟩ := map_obj r hgr
      rw [hx] at hx'
      cases hx'
      have hlt := r.lt rr x hx
      split at hn
      · next p hfd =>
        cases hn
        have hfo := find_ok hk vk 0 hms hfd
        obtain ⟨v0, n0⟩ := p
        obtain ⟨i, rv, key, h1, h2, h3, h4, h5, h6⟩ := hfo
        rw [Nat.zero_add] at h1
        have hfk := run_findKey (P := P) hu h1 w
        refine ⟨e, _, put_map r hgr hx (h5 _ _ vv) (ms.toArray.modify i fun m => { m with key := a.eval k, val := a.eval v }) (by simp), .inr ⟨?_, rfl⟩⟩
        have hkt : Instr.keyThatStays key (a.eval k) = pure (a.eval k) := by unfold Instr.keyThatStays; rw [if_pos h4]
        simp [Instr.mapUpdate, hvm, Sem.run_bind, run_underlying hT, run_getMap hb, run_checkKey hu hk, hfk, h3, hkt]
        rw [run_setMap hb (fun _ _ _ => by simp)]
        simp
      · next hfd =>
        cases hn
        have hfo := find_ok hk vk 0 hms hfd
        have hfk := run_findKey (P := P) hu hfo w
        refine ⟨e, _, put_map r hgr hx (ents_append hms (show ents e [(k'.ev t, v'.ev t, cl)] = some [⟨a.eval k, a.eval v, cl⟩] by simp [ents, vk, vv])) (ms.toArray.push ⟨a.eval k, a.eval v, cl⟩) (by simp), .inr ⟨?_, rfl⟩⟩
        simp [Instr.mapUpdate, hvm, Sem.run_bind, run_underlying hT, run_getMap hb, run_checkKey hu hk, hfk]
        rw [run_setMap hb (fun _ _ _ => by simp)]
        simp
      · cases hn
    · cases hn
  · cases hn
end
end Go.Dx
