/- D: calls. -/
import Derived.Test.YtfdplefijefeiaaGreatDoorZs
namespace Go.Dx
open Go

/-- compile the results of a function -/
def resC (P : Program) : ResultVar → Option DRes
  | .tmp t => some (.tmp t)
  | .cell a t => (P.underlying t).bind fun _ => (sizeT P t).map fun n => .cell a n (isAggT P t)

def funcN (P : Program) (dr : Func → Array Oper → Option (List (DOper × SK))) (fn : Func) : Option DFunc :=
  if fn.name == "runtime.NumGoroutine" then none else
  fn.body.bind fun b => (fn.results.toList.mapM (resC P)).bind fun rs => (codeN P fn.ntmps (dr fn) b).map fun c => ⟨fn.params.size, rs, c⟩

/-- one result, in the model -/
def resM (tmps : Array Value) : ResultVar → Sem Value
  | .tmp t => pure (tmps.getD t undef)
  | .cell a t => do loadVar t (← asAddr (tmps.getD a undef))

theorem res_ok {P : Program} {e : Env} {t : Fr} {tmps : Array Value} {h : DHeap} {w : World} (hf : FrR e t tmps) (r : Rep e h w) {x : ResultVar} {y : DRes} (hc : resC P x = some y) {v : DV} (hv : resD t h y = some v) :
    ∃ rv, (resM tmps x).run P w = .ok rv w ∧ val e v = some rv := by
  cases x with
  | tmp k =>
    simp only [resC, Option.some.injEq] at hc
    subst hc
    simp only [resD, Option.some.injEq] at hv
    subst hv
    exact ⟨_, rfl, FrR.ev (a := ⟨tmps, []⟩) hf k⟩
  | cell k T =>
    simp only [resC] at hc
    obtain ⟨dd, hd, hc⟩ := bind_some hc
    obtain ⟨n, hs, rfl⟩ := Option.map_eq_some_iff.mp hc
    simp only [resD] at hv
    have vx : val e (Opd.ev t (.t k)) = some (tmps.getD k undef) := FrR.ev (a := ⟨tmps, []⟩) hf k
    split at hv
    · next b o hb =>
      rw [hb] at vx
      obtain ⟨y, hy, hval⟩ := ptr_val vx
      split at hv
      · next cs hl =>
        obtain ⟨y', rs, hy', hvs, hr, hlen⟩ := load_cells r hl
        rw [hy] at hy'
        cases hy'
        have hcl : cs.length = rs.length := (vals_length hvs).symm
        cases ha : isAggT P T with
        | true =>
          rw [ha] at hv
          simp only [partD, if_true] at hv
          split at hv
          · next hle =>
            cases hv
            refine ⟨.agg rs.toArray, ?_, ?_⟩
            · simp [resM, hval, asAddr, Sem.run_bind, run_loadN hd ha hs hr hlen]
            · have h0 : sub cs 0 n = cs := by
                simp only [sub, List.drop_zero]
                exact List.take_of_length_le (by omega)
              simp only [val, h0, hvs]
          · cases hv
        | false =>
          rw [ha] at hv
          simp only [partD] at hv
          obtain ⟨rv, hrv, h1⟩ := vals_get hvs hv
          refine ⟨rv, ?_, h1⟩
          have hc : w.cell? ⟨y.blk, y.base + o, none⟩ = some rv := by have := hr 0 rv hrv; rwa [Nat.add_zero] at this
          simp [resM, hval, asAddr, loadVar, Sem.run_bind, run_isAggT hd, ha, load, Sem.run, hc]
      · cases hv
    · cases hv

theorem results_list {P : Program} {e : Env} {t : Fr} {tmps : Array Value} {h : DHeap} {w : World} (hf : FrR e t tmps) (r : Rep e h w) : ∀ {xs : List ResultVar} {ys : List DRes}, xs.mapM (resC P) = some ys → ∀ {vs : List DV}, resultsD t h ys = some vs →
    ∃ rvs, (xs.mapM (resM tmps)).run P w = .ok rvs w ∧ vals e vs = some rvs
  | [], ys, hc, vs, hv => by
    simp only [List.mapM_nil, Option.pure_def, Option.some.injEq] at hc
    subst hc
    simp only [resultsD, Option.some.injEq] at hv
    subst hv
    exact ⟨[], rfl, rfl⟩
  | x :: xs, ys, hc, vs, hv => by
    simp only [List.mapM_cons, Option.bind_eq_bind, Option.pure_def] at hc
    obtain ⟨y, hy, hc⟩ := bind_some hc
    obtain ⟨ys', hys, hc⟩ := bind_some hc
    cases hc
    simp only [resultsD] at hv
    split at hv
    · next v vs' h1 h2 =>
      cases hv
      obtain ⟨rv, hr1, hv1⟩ := res_ok hf r hy h1
      obtain ⟨rvs, hr2, hv2⟩ := results_list hf r hys h2
      refine ⟨rv :: rvs, ?_, vals_cons_of hv1 hv2⟩
      rw [List.mapM_cons, Sem.run_bind, hr1]
      simp only [Result.andThen_ok, Sem.run_bind, hr2, Sem.run_pure]
    · cases hv

theorem results_ok {P : Program} {e : Env} {t : Fr} {tmps : Array Value} {h : DHeap} {w : World} (hf : FrR e t tmps) (r : Rep e h w) {fn : Func} {ys : List DRes} (hc : fn.results.toList.mapM (resC P) = some ys) {v : DV} (hv : retD t h ys = some v) :
    ∃ rv, (results fn tmps).run P w = .ok rv w ∧ val e v = some rv := by
  unfold retD at hv
  have key : ∀ {vs : List DV}, resultsD t h ys = some vs → ∃ rvs : List Value, (results fn tmps).run P w = .ok (if h : rvs.toArray.size = 1 then rvs.toArray[0] else .tuple rvs.toArray) w ∧ vals e vs = some rvs := fun h1 => by
    obtain ⟨rvs, hr, hvs⟩ := results_list hf r hc h1
    refine ⟨rvs, ?_, hvs⟩
    have hres : results fn tmps = (do let vs ← fn.results.mapM (resM tmps); pure (if h : vs.size = 1 then vs[0] else .tuple vs)) := by
      unfold results
      congr 1
    rw [hres, Sem.run_bind, Array.mapM_eq_mapM_toList]
    have h2 : (List.toArray <$> fn.results.toList.mapM (resM tmps) : Sem (Array Value)).run P w = .ok rvs.toArray w := by
      rw [map_eq_pure_bind, Sem.run_bind, hr]
      rfl
    rw [h2]
    rfl
  split at hv
  · next v' h1 =>
    cases hv
    obtain ⟨rvs, hr, hvs⟩ := key h1
    obtain ⟨x, xs, rfl, hx, hxs⟩ := vals_cons hvs
    simp only [vals, Option.some.injEq] at hxs
    subst hxs
    exact ⟨x, hr, hx⟩
  · next vs hne h1 =>
    cases hv
    obtain ⟨rvs, hr, hvs⟩ := key h1
    have hl := vals_length hvs
    have hn1 : ¬ rvs.toArray.size = 1 := fun hs => by
      have : vs.length = 1 := by rw [← hl]; simpa using hs
      match vs, this with
      | [v], _ => exact hne v rfl
    rw [dif_neg hn1] at hr
    exact ⟨_, hr, by simp only [val, hvs]⟩
  · cases hv
end Go.Dx
