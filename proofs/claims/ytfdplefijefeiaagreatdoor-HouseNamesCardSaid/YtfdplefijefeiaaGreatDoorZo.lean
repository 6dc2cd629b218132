/- D: structs and slices that are written out: the operations. -/
import Derived.Test.YtfdplefijefeiaaGreatDoorZn
import Derived.Laws.Tables
import Derived.DataReads
namespace Go.Dx
open Go

section
variable {P : Program} {e : Env} {t : Fr} {a : Act} {h : DHeap} {w : World} {o : Oper} {D : DProg} {nx : Nx}

/-- the parts, evaluated -/
theorem parts_rel {place : Nat → Option (Nat × Nat)} (hg : Glob P e) (hf : FrR e t a.tmps) {F : Nat × Operand → Option (Nat × Nat × Opd)} (hF : ∀ q off n x, F q = some (off, n, x) → place q.1 = some (off, n) ∧ opdD P q.2 = some x) :
    ∀ {ps : List (Nat × Operand)} {ds : List (Nat × Nat × Opd)}, ps.mapM F = some ds →
      ds.length = ps.length ∧ ∀ (j : Nat) (off n : Nat) (d : DV), (ds.map fun p => (p.1, p.2.1, p.2.2.ev t))[j]? = some (off, n, d) → ∃ i v, (ps.map fun q => (q.1, a.eval q.2))[j]? = some (i, v) ∧ place i = some (off, n) ∧ val e d = some v
  | [], ds, h => by rw [mapM_nil_some h]; exact ⟨rfl, fun j off n d hj => by simp at hj⟩
  | q :: ps, ds, h => by
    obtain ⟨b, bs, rfl, h1, h2⟩ := mapM_cons_some h
    obtain ⟨ih1, ih2⟩ := parts_rel hg hf hF h2
    refine ⟨by simp [ih1], fun j off n d hj => ?_⟩
    cases j with
    | zero =>
      obtain ⟨o1, n1, x1⟩ := b
      simp only [List.map_cons, List.getElem?_cons_zero, Option.some.injEq, Prod.mk.injEq] at hj
      obtain ⟨rfl, rfl, rfl⟩ := hj
      obtain ⟨hp, hx⟩ := hF _ _ _ _ h1
      exact ⟨q.1, a.eval q.2, rfl, hp, opd_ok hg hf hx⟩
    | succ j => simpa using ih2 j off n d (by simpa using hj)
theorem ok_build {T : TypeId} {ps : Array (Nat × Operand)} {z : DV} {ds : List (Nat × Nat × Opd)} (hg : Glob P e) (hf : FrR e t a.tmps) (r : Rep e h w) (ho : o.op = .build T ps) (hz : zeroT P T = some z) (hps : partsD P T ps = some ds) (hn : opD D t h (.build z.cells ds) = some nx) : NxOk P e h w (execOp a.eval o) nx := by
  simp only [opD] at hn
  split at hn
  · next cs hfill =>
    cases hn
    unfold zeroT at hz
    cases hit : P.info? T with
    | none => simp [hit] at hz
    | some it =>
      simp only [hit, Option.bind_some] at hz
      cases hzv : it.zero with
      | none => simp [hzv] at hz
      | some zv =>
        simp only [hzv, Option.bind_some] at hz
        have hzval := valD_val e 4 zv z hz
        have hcells := cells_val hzval
        have hb : ∃ rs, P.built T (ps.map fun (i, x) => (i, a.eval x)).toList = some rs.toArray ∧ vals e cs = some rs := by
          unfold partsD at hps
          unfold Program.built
          have hmap : (ps.map fun (i, x) => (i, a.eval x)).toList = ps.toList.map fun q => (q.1, a.eval q.2) := by simp
          split at hps
          · next fs hu =>
            split at hps
            · cases hps
            · next places hpl =>
              obtain ⟨h1, h2⟩ := parts_rel (place := (places.toArray[·]?)) hg hf (fun q off n x hq => by
                split at hq
                · cases hq
                · next p hp =>
                  split at hq
                  · cases hq
                  · next x' hx' =>
                    simp only [Option.some.injEq, Prod.mk.injEq] at hq
                    obtain ⟨rfl, rfl, rfl⟩ := hq
                    exact ⟨by simpa using hp, hx'⟩) hps
              obtain ⟨rs, g1, g2⟩ := fill_ok (place := (places.toArray[·]?)) hcells hfill (by simp [h1]) h2
              refine ⟨rs, ?_, g2⟩
              simp only [hit, hu, hzv, hpl, hmap]
              simpa using g1
          · next n el hu =>
            split at hps
            · cases hps
            · next sz hsz =>
              obtain ⟨h1, h2⟩ := parts_rel (place := fun i => some (i * sz, sz)) hg hf (fun q off n x hq => by
                split at hq
                · cases hq
                · next x' hx' =>
                  simp only [Option.some.injEq, Prod.mk.injEq] at hq
                  obtain ⟨rfl, rfl, rfl⟩ := hq
                  exact ⟨rfl, hx'⟩) hps
              obtain ⟨rs, g1, g2⟩ := fill_ok (place := fun i => some (i * sz, sz)) hcells hfill (by simp [h1]) h2
              refine ⟨rs, ?_, g2⟩
              unfold sizeT at hsz
              cases hie : P.info? el with
              | none => simp [hie] at hsz
              | some ie =>
                simp only [hie, Option.map_some, Option.some.injEq] at hsz
                simp only [hit, hu, hzv, hie, hmap, hsz]
                simpa using g1
          · cases hps
        obtain ⟨rs, g1, g2⟩ := hb
        refine .pure r (rv := .agg rs.toArray) ?_ (by simp only [val, g2])
        simp only [execOp, ho, Sem.run_bind, run_build w T _ _ g1, Result.andThen_ok]
        rfl
  · cases hn
theorem ok_buildSlice {T el : TypeId} {n : Nat} {ps : Array (Nat × Operand)} {i : TypeInfo} {z : DV} {ds : List (Nat × Nat × Opd)} (hg : Glob P e) (hf : FrR e t a.tmps) (r : Rep e h w) (ho : o.op = .buildSlice T n ps) (hT : P.underlying T = some (.slice el)) (hi : P.info? el = some i) (hz : zeroT P el = some z) (hzs : z.cells.length = i.size) (hle : n * i.size ≤ 16777216)
    (hps : ps.toList.mapM (fun q => (match opdD P q.2 with | none => none | some x => some (q.1 * i.size, i.size, x))) = some ds) (hn : opD D t h (.buildSlice n (List.replicate n z.cells).flatten ds) = some nx) : NxOk P e h w (execOp a.eval o) nx := by
  obtain ⟨zv, hz1, hz2⟩ := run_zeroT hz e w
  simp only [opD] at hn
  split at hn
  · next cs hfill =>
    cases hn
    obtain ⟨h1, h2⟩ := parts_rel (place := fun j => some (j * i.size, i.size)) hg hf (fun q off n x hq => by
      split at hq
      · cases hq
      · next x' hx' =>
        simp only [Option.some.injEq, Prod.mk.injEq] at hq
        obtain ⟨rfl, rfl, rfl⟩ := hq
        exact ⟨rfl, hx'⟩) hps
    obtain ⟨rs, g1, g2⟩ := fill_ok (place := fun j => some (j * i.size, i.size)) (replicate_vals hz2 n) hfill (by simp [h1]) h2
    have hst := step_new_cells r g2 [] el 0 0 (by simp)
    rw [List.append_nil] at hst
    refine ⟨_, _, hst, .inl ⟨.slice (some ⟨w.heap.size, 0, none⟩) n n, ?_, by simp [val, Env.add]⟩⟩
    have hzl : zv.cells.size = i.size := by rw [← hzs]; have := vals_length (cells_val hz2); simpa using this
    have hmap : (ps.map fun (i, x) => (i, a.eval x)).toList = ps.toList.map fun q => (q.1, a.eval q.2) := by simp
    have hrow : (Array.range (n * i.size)).map ((if n * i.size = 0 then (#[] : Array Value) else zv.cells)[· % (if n * i.size = 0 then (#[] : Array Value) else zv.cells).size]!) = (List.replicate n zv.cells.toList).flatten.toArray := by
      by_cases h0 : n * i.size = 0
      · simp only [h0, if_true]
        rcases Nat.mul_eq_zero.1 h0 with hm0 | hs0
        · rw [hm0]; simp
        · have : zv.cells = #[] := Array.eq_empty_of_size_eq_zero (by rw [hzl, hs0])
          rw [this]
          simp
      · simp only [h0, if_false]
        rw [← hzl]
        exact range_mod _ _
    have hsz : (sizeOf el).run P w = .ok i.size w := by simp [sizeOf, typeInfo, hi]
    simp only [execOp, ho, Sem.run_bind]
    unfold Instr.buildSlice
    simp only [Sem.run_bind, run_underlying hT, Result.andThen_ok, hsz]
    rw [if_neg (by omega)]
    simp only [hmap]
    by_cases h0 : n * i.size = 0
    · simp only [h0, if_true] at hrow
      rw [if_pos h0]
      simp only [Sem.run_bind, Sem.run_pure, Result.andThen_ok, h0, hrow, g1, run_newRow]
    · simp only [h0, if_false] at hrow
      rw [if_neg h0]
      simp only [Sem.run_bind, Sem.run_pure, Result.andThen_ok, hz1, hrow, g1, run_newRow]
  · cases hn
end
end Go.Dx
