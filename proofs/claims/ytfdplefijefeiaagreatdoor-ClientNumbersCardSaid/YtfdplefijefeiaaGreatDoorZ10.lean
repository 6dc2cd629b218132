/- The evaluator, part 10. -/
import Derived.Test.YtfdplefijefeiaaGreatDoorZ9
import Derived.Scope
import Derived.OrdersHeld
/- D: code. -/
namespace Go.Dx
open Go

def exitOf : Ex → Exit
  | .normal => .normal
  | .exit id => .exit id
  | .ret => .ret

/-- compile code; `dr` compiles the regions that draw -/
def codeN (P : Program) (n : Nat) (dr : Array Oper → Option (List (DOper × SK))) : Code → Option DCode
  | .skip => some .skip
  | .region _ ops draw => match draw with
    | true => (dr ops).map .draw
    | false => (ops.toList.mapM (operN P n ops)).map .region
  | .seq a b => (codeN P n dr a).bind fun x => (codeN P n dr b).map fun y => .seq x y
  | .cond c a b => (opdD P c).bind fun z => (codeN P n dr a).bind fun x => (codeN P n dr b).map fun y => .cond z x y
  | .block id c => (codeN P n dr c).map (.block id)
  | .loop c => (codeN P n dr c).map .loop
  | .exit id => some (.exit id)
  | .ret => some .ret
  | .scope c => codeN P n dr c
  | .label _ => some .skip
  | _ => none

/-- what a compiled region that draws stands for -/
def DrawOk (P : Program) (D : DProg) (call : Caller) (n : Nat) (ops : Array Oper) (dl : List (DOper × SK)) : Prop :=
  ∀ (id : Nat) (Q : Exit → Act → World → Prop) (e : Env) (t : Fr) (a : Act) (h : DHeap) (w : World) (t' : Fr) (h' : DHeap), Glob P e → FrR e t a.tmps → n ≤ a.tmps.size → Rep e h w →
    drawD D call dl [] t h = some (t', h') → (∀ e' a' w', Step e h w e' h' w' → FrR e' t' a'.tmps → n ≤ a'.tmps.size → a'.defers = a.defers → Q .normal a' w') → (Code.region id ops true).wp P Q a w

theorem wp_loop_n {P : Program} {c : Code} {Q : Exit → Act → World → Prop} (I : Nat → Act → World → Prop) (round : ∀ k a w, I k a w → c.wp P (Exit.then (fun a' w' => ∃ k', k' < k ∧ I k' a' w') Q) a w)
    {a : Act} {w : World} {n : Nat} (h₀ : I n a w) : (Code.loop c).wp P Q a w := by
  intro b k cs
  have key : ∀ n a w, I n a w →
      ∃ e a' w', Q e a' w' ∧ Arrives P (lone (b.at a (.code c :: .inLoop c :: k)) cs w) b k cs e a' w' := by
    intro n
    induction n using Nat.strongRecOn with
    | _ n ih =>
      intro a w hI
      obtain ⟨e, a₁, w₁, hq, harr⟩ := round n a w hI b (.inLoop c :: k) cs
      cases e with
      | normal =>
        obtain ⟨k', hlt, hI₁⟩ := hq
        obtain ⟨e₂, a₂, w₂, hq₂, harr₂⟩ := ih k' hlt a₁ w₁ hI₁
        exact ⟨e₂, a₂, w₂, hq₂, .of_steps (Steps.trans harr (.one step_inLoop)) harr₂⟩
      | exit id => exact ⟨_, a₁, w₁, hq, .pass (x := .inLoop c) rfl (fun _ _ => .inl (by simp)) harr⟩
      | goto l => exact ⟨_, a₁, w₁, hq, .pass (x := .inLoop c) rfl (fun _ _ => .inl (by simp)) harr⟩
      | ret => exact ⟨_, a₁, w₁, hq, .pass (x := .inLoop c) rfl (fun _ _ => .inl (by simp)) harr⟩
      | panic ch => exact ⟨_, a₁, w₁, hq, .pass (x := .inLoop c) rfl (fun _ _ => .inl (by simp)) harr⟩
      | outgrown => exact ⟨_, a₁, w₁, hq, .pass (x := .inLoop c) rfl (fun _ _ => .inl (by simp)) harr⟩
  obtain ⟨e, a', w', hq, harr⟩ := key _ a w h₀
  exact ⟨e, a', w', hq, .of_steps (.one step_loop) harr⟩

/-- what a compiled code stands for -/
def CodeOk (P : Program) (n : Nat) (c : Code) (run : Fr → DHeap → Option (Ex × Fr × DHeap)) : Prop :=
  ∀ (e : Env) (t : Fr) (a : Act) (h : DHeap) (w : World) (ex : Ex) (t' : Fr) (h' : DHeap) (Q : Exit → Act → World → Prop), Glob P e → FrR e t a.tmps → n ≤ a.tmps.size → Rep e h w →
    run t h = some (ex, t', h') → (∀ e' a' w', Step e h w e' h' w' → FrR e' t' a'.tmps → n ≤ a'.tmps.size → a'.defers = a.defers → Q (exitOf ex) a' w') → c.wp P Q a w

theorem code_sound {P : Program} {D : DProg} {call : Caller} {n fuel : Nat} {dr : Array Oper → Option (List (DOper × SK))} (hD : DOk P D) (hcall : CallOk P call)
    (hdr : ∀ ops dl, dr ops = some dl → DrawOk P D call n ops dl) : ∀ (c : Code) (d : DCode), codeN P n dr c = some d → CodeOk P n c (codeD D call fuel d)
  | .skip, d, hc => by
    simp only [codeN, Option.some.injEq] at hc
    subst hc
    intro e t a h w ex t' h' Q hg hf hn r hr hQ
    simp only [codeD, Option.some.injEq, Prod.mk.injEq] at hr
    obtain ⟨rfl, rfl, rfl⟩ := hr
    exact wp_skip (hQ e a w (Step.refl r) hf hn rfl)
  | .label _, d, hc => by
    simp only [codeN, Option.some.injEq] at hc
    subst hc
    intro e t a h w ex t' h' Q hg hf hn r hr hQ
    simp only [codeD, Option.some.injEq, Prod.mk.injEq] at hr
    obtain ⟨rfl, rfl, rfl⟩ := hr
    exact wp_label (hQ e a w (Step.refl r) hf hn rfl)
  | .exit id, d, hc => by
    simp only [codeN, Option.some.injEq] at hc
    subst hc
    intro e t a h w ex t' h' Q hg hf hn r hr hQ
    simp only [codeD, Option.some.injEq, Prod.mk.injEq] at hr
    obtain ⟨rfl, rfl, rfl⟩ := hr
    exact wp_exit (hQ e a w (Step.refl r) hf hn rfl)
  | .ret, d, hc => by
    simp only [codeN, Option.some.injEq] at hc
    subst hc
    intro e t a h w ex t' h' Q hg hf hn r hr hQ
    simp only [codeD, Option.some.injEq, Prod.mk.injEq] at hr
    obtain ⟨rfl, rfl, rfl⟩ := hr
    exact wp_ret (hQ e a w (Step.refl r) hf hn rfl)
  | .region id ops draw, d, hc => by
    simp only [codeN] at hc
    cases draw with
    | true =>
      simp only at hc
      obtain ⟨dl, hdl, rfl⟩ := Option.map_eq_some_iff.mp hc
      intro e t a h w ex t' h' Q hg hf hn r hr hQ
      simp only [codeD] at hr
      split at hr
      · next t1 h1 hrr =>
        simp only [Option.some.injEq, Prod.mk.injEq] at hr
        obtain ⟨rfl, rfl, rfl⟩ := hr
        exact hdr ops dl hdl id Q e t a h w t1 h1 hg hf hn r hrr hQ
      · cases hr
    | false =>
      simp only at hc
      obtain ⟨dl, hdl, rfl⟩ := Option.map_eq_some_iff.mp hc
      intro e t a h w ex t' h' Q hg hf hn r hr hQ
      simp only [codeD] at hr
      split at hr
      · next t1 h1 hrr =>
        simp only [Option.some.injEq, Prod.mk.injEq] at hr
        obtain ⟨rfl, rfl, rfl⟩ := hr
        exact wp_region_list (wpList_D hD hcall _ _ hdl e t a h w t1 h1 hg hf hn r hrr hQ)
      · cases hr
  | .seq x y, d, hc => by
    simp only [codeN] at hc
    obtain ⟨dx, hx, hc⟩ := bind_some hc
    obtain ⟨dy, hy, rfl⟩ := Option.map_eq_some_iff.mp hc
    intro e t a h w ex t' h' Q hg hf hn r hr hQ
    have hX := code_sound (fuel := fuel) hD hcall hdr x dx hx
    have hY := code_sound (fuel := fuel) hD hcall hdr y dy hy
    refine wp_seq ?_
    simp only [codeD] at hr
    split at hr
    · next t1 h1 h1r =>
      refine hX e t a h w _ t1 h1 _ hg hf hn r h1r fun e1 a1 w1 st hf1 hn1 hd1 => ?_
      exact hY e1 t1 a1 h1 w1 ex t' h' _ (hg.le st.le) hf1 hn1 st.rep hr fun e' a' w' st' hf' hn' hd' => hQ e' a' w' (st.trans st') hf' hn' (hd'.trans hd1)
    · next hne =>
      refine hX e t a h w ex t' h' _ hg hf hn r hr fun e1 a1 w1 st hf1 hn1 hd1 => ?_
      cases ex with
      | normal => exact (hne _ _ hr).elim
      | exit id => exact hQ e1 a1 w1 st hf1 hn1 hd1
      | ret => exact hQ e1 a1 w1 st hf1 hn1 hd1
  | .cond c x y, d, hc => by
    simp only [codeN] at hc
    obtain ⟨z, hz, hc⟩ := bind_some hc
    obtain ⟨dx, hx, hc⟩ := bind_some hc
    obtain ⟨dy, hy, rfl⟩ := Option.map_eq_some_iff.mp hc
    intro e t a h w ex t' h' Q hg hf hn r hr hQ
    have hv := opd_ok hg hf hz
    simp only [codeD] at hr
    split at hr
    · next hb =>
      rw [hb] at hv
      simp only [val, Option.some.injEq] at hv
      exact wp_cond_true hv.symm (code_sound (fuel := fuel) hD hcall hdr x dx hx e t a h w ex t' h' Q hg hf hn r hr hQ)
    · next hb =>
      rw [hb] at hv
      simp only [val, Option.some.injEq] at hv
      exact wp_cond_false hv.symm (code_sound (fuel := fuel) hD hcall hdr y dy hy e t a h w ex t' h' Q hg hf hn r hr hQ)
    · cases hr
  | .block id c, d, hc => by
    simp only [codeN] at hc
    obtain ⟨dc, hcc, rfl⟩ := Option.map_eq_some_iff.mp hc
    intro e t a h w ex t' h' Q hg hf hn r hr hQ
    have hC := code_sound (fuel := fuel) hD hcall hdr c dc hcc
    refine wp_block ?_
    simp only [codeD] at hr
    split at hr
    · next i t1 h1 h1r =>
      refine hC e t a h w _ t1 h1 _ hg hf hn r h1r fun e1 a1 w1 st hf1 hn1 hd1 => ?_
      simp only [exitOf, Exit.inBlock]
      split at hr
      · next hi =>
        simp only [Option.some.injEq, Prod.mk.injEq] at hr
        obtain ⟨rfl, rfl, rfl⟩ := hr
        rw [if_pos hi]
        exact hQ e1 a1 w1 st hf1 hn1 hd1
      · next hi =>
        simp only [Option.some.injEq, Prod.mk.injEq] at hr
        obtain ⟨rfl, rfl, rfl⟩ := hr
        rw [if_neg hi]
        exact hQ e1 a1 w1 st hf1 hn1 hd1
    · next hne =>
      refine hC e t a h w ex t' h' _ hg hf hn r hr fun e1 a1 w1 st hf1 hn1 hd1 => ?_
      cases ex with
      | exit i => exact (hne _ _ _ hr).elim
      | normal => exact hQ e1 a1 w1 st hf1 hn1 hd1
      | ret => exact hQ e1 a1 w1 st hf1 hn1 hd1
  | .loop c, d, hc => by
    simp only [codeN] at hc
    obtain ⟨dc, hcc, rfl⟩ := Option.map_eq_some_iff.mp hc
    intro e t a h w ex t' h' Q hg hf hn r hr hQ
    have hC := code_sound (fuel := fuel) hD hcall hdr c dc hcc
    simp only [codeD] at hr
    refine wp_loop_n (fun k a1 w1 => ∃ e1 t1 h1, Step e h w e1 h1 w1 ∧ FrR e1 t1 a1.tmps ∧ n ≤ a1.tmps.size ∧ a1.defers = a.defers ∧ iterD (codeD D call fuel dc) k t1 h1 = some (ex, t', h')) (fun k a1 w1 ⟨e1, t1, h1, st, hf1, hn1, hd1, hit⟩ => ?_) (n := fuel) ⟨e, t, h, Step.refl r, hf, hn, rfl, hr⟩
    cases k with
    | zero => simp [iterD] at hit
    | succ k =>
      simp only [iterD] at hit
      split at hit
      · next t2 h2 h2r =>
        exact hC e1 t1 a1 h1 w1 _ t2 h2 _ (hg.le st.le) hf1 hn1 st.rep h2r fun e' a' w' st' hf' hn' hd' => ⟨k, Nat.lt_succ_self k, e', t2, h2, st.trans st', hf', hn', hd'.trans hd1, hit⟩
      · next hne =>
        refine hC e1 t1 a1 h1 w1 ex t' h' _ (hg.le st.le) hf1 hn1 st.rep hit fun e' a' w' st' hf' hn' hd' => ?_
        have := hQ e' a' w' (st.trans st') hf' hn' (hd'.trans hd1)
        cases ex with
        | normal => exact (hne _ _ hit).elim
        | exit i => exact this
        | ret => exact this
  | .scope c, d, hc => by
    simp only [codeN] at hc
    intro e t a h w ex t' h' Q hg hf hn r hr hQ
    refine wp_scope_straight (code_sound (fuel := fuel) hD hcall hdr c d hc e t a h w ex t' h' _ hg hf hn r hr fun e' a' w' st hf' hn' hd' => ?_)
    have := hQ e' a' w' st hf' hn' hd'
    cases ex <;> exact this
  | .rangeFunc .., d, hc => by simp [codeN] at hc
  | .goto _, d, hc => by simp [codeN] at hc
  | .refuse _, d, hc => by simp [codeN] at hc
end Go.Dx
/- D: calls. -/
namespace Go.Dx
open Go

/-- compile the results of a function -/
def resC (P : Program) : ResultVar → Option DRes
  | .tmp t => some (.tmp t)
  | .cell a t => (P.underlying t).bind fun _ => (sizeT P t).map fun n => .cell a n (isAggT P t)

def funcN (P : Program) (dr : Func → Array Oper → Option (List (DOper × SK))) (fn : Func) : Option DFunc :=
  if fn.name == "runtime.NumGoroutine" then none else
  fn.body.bind fun b => (fn.results.toList.mapM (resC P)).bind fun rs => (codeN P fn.ntmps (dr fn) b).map fun c => ⟨fn.params.size, rs, c⟩

/-- one result, in the model -/
def resM (tmps : Array Value) : ResultVar → Sem Value
  | .tmp t => pure (tmps.getD t undef)
  | .cell a t => do loadVar t (← asAddr (tmps.getD a undef))

theorem res_ok {P : Program} {e : Env} {t : Fr} {tmps : Array Value} {h : DHeap} {w : World} (hf : FrR e t tmps) (r : Rep e h w) {x : ResultVar} {y : DRes} (hc : resC P x = some y) {v : DV} (hv : resD t h y = some v) :
    ∃ rv, (resM tmps x).run P w = .ok rv w ∧ val e v = some rv := by
  cases x with
  | tmp k =>
    simp only [resC, Option.some.injEq] at hc
    subst hc
    simp only [resD, Option.some.injEq] at hv
    subst hv
    exact ⟨_, rfl, FrR.ev (a := ⟨tmps, []⟩) hf k⟩
  | cell k T =>
    simp only [resC] at hc
    obtain ⟨dd, hd, hc⟩ := bind_some hc
    obtain ⟨n, hs, rfl⟩ := Option.map_eq_some_iff.mp hc
    simp only [resD] at hv
    have vx : val e (Opd.ev t (.t k)) = some (tmps.getD k undef) := FrR.ev (a := ⟨tmps, []⟩) hf k
    split at hv
    · next b o hb =>
      rw [hb] at vx
      obtain ⟨y, hy, hval⟩ := ptr_val vx
      split at hv
      · next cs hl =>
        obtain ⟨y', rs, hy', hvs, hr, hlen⟩ := load_cells r hl
        rw [hy] at hy'
        cases hy'
        have hcl : cs.length = rs.length := (vals_length hvs).symm
        cases ha : isAggT P T with
        | true =>
          rw [ha] at hv
          simp only [partD, if_true] at hv
          split at hv
          · next hle =>
            cases hv
            refine ⟨.agg rs.toArray, ?_, ?_⟩
            · simp [resM, hval, asAddr, Sem.run_bind, run_loadN hd ha hs hr hlen]
            · have h0 : sub cs 0 n = cs := by
                simp only [sub, List.drop_zero]
                exact List.take_of_length_le (by omega)
              simp only [val, h0, hvs]
          · cases hv
        | false =>
          rw [ha] at hv
          simp only [partD] at hv
          obtain ⟨rv, hrv, h1⟩ := vals_get hvs hv
          refine ⟨rv, ?_, h1⟩
          have hc : w.cell? ⟨y.blk, y.base + o, none⟩ = some rv := by have := hr 0 rv hrv; rwa [Nat.add_zero] at this
          simp [resM, hval, asAddr, loadVar, Sem.run_bind, run_isAggT hd, ha, load, Sem.run, hc]
      · cases hv
    · cases hv

theorem results_list {P : Program} {e : Env} {t : Fr} {tmps : Array Value} {h : DHeap} {w : World} (hf : FrR e t tmps) (r : Rep e h w) : ∀ {xs : List ResultVar} {ys : List DRes}, xs.mapM (resC P) = some ys → ∀ {vs : List DV}, resultsD t h ys = some vs →
    ∃ rvs, (xs.mapM (resM tmps)).run P w = .ok rvs w ∧ vals e vs = some rvs
  | [], ys, hc, vs, hv => by
    simp only [List.mapM_nil, Option.pure_def, Option.some.injEq] at hc
    subst hc
    simp only [resultsD, Option.some.injEq] at hv
    subst hv
    exact ⟨[], rfl, rfl⟩
  | x :: xs, ys, hc, vs, hv => by
    simp only [List.mapM_cons, Option.bind_eq_bind, Option.pure_def] at hc
    obtain ⟨y, hy, hc⟩ := bind_some hc
    obtain ⟨ys', hys, hc⟩ := bind_some hc
    cases hc
    simp only [resultsD] at hv
    split at hv
    · next v vs' h1 h2 =>
      cases hv
      obtain ⟨rv, hr1, hv1⟩ := res_ok hf r hy h1
      obtain ⟨rvs, hr2, hv2⟩ := results_list hf r hys h2
      refine ⟨rv :: rvs, ?_, vals_cons_of hv1 hv2⟩
      rw [List.mapM_cons, Sem.run_bind, hr1]
      simp only [Result.andThen_ok, Sem.run_bind, hr2, Sem.run_pure]
    · cases hv

theorem results_ok {P : Program} {e : Env} {t : Fr} {tmps : Array Value} {h : DHeap} {w : World} (hf : FrR e t tmps) (r : Rep e h w) {fn : Func} {ys : List DRes} (hc : fn.results.toList.mapM (resC P) = some ys) {v : DV} (hv : retD t h ys = some v) :
    ∃ rv, (results fn tmps).run P w = .ok rv w ∧ val e v = some rv := by
  unfold retD at hv
  have key : ∀ {vs : List DV}, resultsD t h ys = some vs → ∃ rvs : List Value, (results fn tmps).run P w = .ok (if h : rvs.toArray.size = 1 then rvs.toArray[0] else .tuple rvs.toArray) w ∧ vals e vs = some rvs := fun h1 => by
    obtain ⟨rvs, hr, hvs⟩ := results_list hf r hc h1
    refine ⟨rvs, ?_, hvs⟩
    have hres : results fn tmps = (do let vs ← fn.results.mapM (resM tmps); pure (if h : vs.size = 1 then vs[0] else .tuple vs)) := by
      unfold results
      congr 1
    rw [hres, Sem.run_bind, Array.mapM_eq_mapM_toList]
    have h2 : (List.toArray <$> fn.results.toList.mapM (resM tmps) : Sem (Array Value)).run P w = .ok rvs.toArray w := by
      rw [map_eq_pure_bind, Sem.run_bind, hr]
      rfl
    rw [h2]
    rfl
  split at hv
  · next v' h1 =>
    cases hv
    obtain ⟨rvs, hr, hvs⟩ := key h1
    obtain ⟨x, xs, rfl, hx, hxs⟩ := vals_cons hvs
    simp only [vals, Option.some.injEq] at hxs
    subst hxs
    exact ⟨x, hr, hx⟩
  · next vs hne h1 =>
    cases hv
    obtain ⟨rvs, hr, hvs⟩ := key h1
    have hl := vals_length hvs
    have hn1 : ¬ rvs.toArray.size = 1 := fun hs => by
      have : vs.length = 1 := by rw [← hl]; simpa using hs
      match vs, this with
      | [v], _ => exact hne v rfl
    rw [dif_neg hn1] at hr
    exact ⟨_, hr, by simp only [val, hvs]⟩
  · cases hv
end Go.Dx
/- D: a call, whole. -/
namespace Go.Dx
open Go

theorem frameD_get : ∀ (vs : List DV) (i : Nat) (t : Fr) (n : Nat), (frameD i vs t).get n = if i ≤ n ∧ n < i + vs.length then vs[n - i]? else t.get n
  | [], i, t, n => by
    have : ¬ (i ≤ n ∧ n < i + ([] : List DV).length) := by simp only [List.length_nil]; omega
    rw [if_neg this]
    rfl
  | v :: vs, i, t, n => by
    simp only [frameD]
    rw [frameD_get vs (i + 1), Tr.get_set]
    simp only [List.length_cons]
    by_cases h1 : i + 1 ≤ n ∧ n < i + 1 + vs.length
    · rw [if_pos h1, if_pos (by omega)]
      obtain ⟨k, hk⟩ : ∃ k, n - i = k + 1 := ⟨n - i - 1, by omega⟩
      rw [hk, List.getElem?_cons_succ]
      congr 1
      omega
    · rw [if_neg h1]
      by_cases h2 : n = i
      · subst h2
        rw [if_pos rfl, if_pos (by omega), Nat.sub_self, List.getElem?_cons_zero]
      · rw [if_neg h2, if_neg (by omega)]

theorem frame_ok {e : Env} {args : List DV} {rargs : Array Value} (k : Nat) (h : vals e args = some rargs.toList) : FrR e (frameD 0 args .nil) (rargs ++ Array.replicate k undef) := by
  intro n
  have hl := vals_length h
  rw [frameD_get]
  have hl' : rargs.size = args.length := by simpa using hl
  by_cases hn : n < args.length
  · rw [if_pos (by omega), Nat.sub_zero]
    obtain ⟨v, hv⟩ : ∃ v, args[n]? = some v := ⟨_, List.getElem?_eq_getElem hn⟩
    obtain ⟨rv, hrv, h1⟩ := vals_get h hv
    rw [hv, Option.getD_some, h1]
    have hrv' : rargs[n]? = some rv := by simpa using hrv
    rw [Array.getD_eq_getD_getElem?, Array.getElem?_append_left (by omega), hrv']
    rfl
  · rw [if_neg (by omega)]
    rw [show (Tr.nil : Fr).get n = none from rfl, Option.getD_none, undef_val]
    rw [Array.getD_eq_getD_getElem?, Array.getElem?_append_right (by omega)]
    by_cases hk : n - rargs.size < k
    · rw [Array.getElem?_replicate, if_pos hk]; rfl
    · rw [Array.getElem?_replicate, if_neg hk]; rfl

/-- the own program stands for the model's -/
structure ProgOk (P : Program) (D : DProg) (dr : Func → Array Oper → Option (List (DOper × SK))) : Prop where
  ops : DOk P D
  funcs : ∀ f d, D.funcs f = some d → ∃ fn, P.funcs[f]? = some fn ∧ funcN P dr fn = some d
  spec : ∀ f s, D.spec f = some s → ∀ (e : Env) (h : DHeap) (w : World) (args : List DV) (v : DV) (h' : DHeap) (rargs : Array Value), s args h = some (v, h') → Glob P e → Rep e h w → vals e args = some rargs.toList →
    (∃ f' args', (callFunc f rargs).run P w = .ok (.enter f' args') w ∧ Calls P f' args' w fun en w' => ∃ e' rv, en = .returned rv ∧ Step e h w e' h' w' ∧ val e' v = some rv) ∨
    (∃ rv e' w', (callFunc f rargs).run P w = .ok (.value rv) w' ∧ Step e h w e' h' w' ∧ val e' v = some rv)
  draws : ∀ call, CallOk P call → ∀ fn ops dl, dr fn ops = some dl → DrawOk P D call fn.ntmps ops dl

theorem call_sound {P : Program} {D : DProg} {dr : Func → Array Oper → Option (List (DOper × SK))} (hp : ProgOk P D dr) (fuel : Nat) : ∀ n, CallOk P (callD D fuel n)
  | 0 => fun e h w f args v h' rargs hr _ _ _ => by simp [callD] at hr
  | n + 1 => fun e h w f args v h' rargs hr hg r hvs => by
    simp only [callD] at hr
    split at hr
    · next s hs => exact hp.spec f s hs e h w args v h' rargs hr hg r hvs
    · split at hr
      · next d hd =>
        obtain ⟨fn, hf, hfn⟩ := hp.funcs f d hd
        unfold funcN at hfn
        split at hfn
        · cases hfn
        · next hname =>
          obtain ⟨b, hb, hfn⟩ := bind_some hfn
          obtain ⟨rs, hrs, hfn⟩ := bind_some hfn
          obtain ⟨c, hc, rfl⟩ := Option.map_eq_some_iff.mp hfn
          refine .inl ⟨f, rargs, (by simp [callFunc, hf, hb, show fn.name ≠ "runtime.NumGoroutine" by simpa using hname]), calls_of_wp hf hb ?_⟩
          have hC := code_sound (fuel := fuel) hp.ops (call_sound hp fuel n) (hp.draws _ (call_sound hp fuel n) fn) b c hc
          have hfr := frame_ok (fn.ntmps - rargs.size) hvs
          have hsz : fn.ntmps ≤ (rargs ++ Array.replicate (fn.ntmps - rargs.size) undef).size := by simp; omega
          simp only at hr
          have fin : ∀ (ex : Ex) t h1, codeD D (callD D fuel n) fuel c (frameD 0 args .nil) h = some (ex, t, h1) → (ex = .normal ∨ ex = .ret) → retD t h1 rs = some v → h1 = h' →
              b.wp P (bodyPost P fn fun en w' => ∃ e' rv, en = .returned rv ∧ Step e h w e' h' w' ∧ val e' v = some rv) { tmps := rargs ++ Array.replicate (fn.ntmps - rargs.size) undef, defers := [] } w := by
            intro ex t h1 hrun hex hret hh
            subst hh
            refine hC e _ ⟨_, []⟩ h w ex t h1 _ hg hfr hsz r hrun fun e' a' w' st hf' _ hd' => ?_
            obtain ⟨rv, hrr, hval⟩ := results_ok hf' st.rep hrs hret
            rcases hex with rfl | rfl
            · exact bodyPost_end hrr hd' ⟨e', rv, rfl, st, hval⟩
            · exact bodyPost_ret hrr hd' ⟨e', rv, rfl, st, hval⟩
          split at hr
          · cases hr
          · next ex t h1 hne hrun =>
            split at hr
            · next v1 hret =>
              simp only [Option.some.injEq, Prod.mk.injEq] at hr
              obtain ⟨rfl, rfl⟩ := hr
              refine fin ex t _ hrun ?_ hret rfl
              cases ex with
              | normal => exact .inl rfl
              | ret => exact .inr rfl
              | exit i => exact (hne _ rfl).elim
            · cases hr
          · cases hr
      · cases hr
end Go.Dx
/- D: taking an operation first, where what is asked of the world hangs on what has come up. -/
namespace Go.Dx
open Go
section
variable {P : Program} {ops : Array Oper} {Q : Exit → Act → World → Prop} {md : Region.Mode} {S : Array Bool → World → Prop}

def wpAnyS (P : Program) (md : Region.Mode) (ops : Array Oper) (Q : Exit → Act → World → Prop) (S : Array Bool → World → Prop) : Nat → Array Bool → Act → World → Prop
  | 0, listed, a, w => Region.ready md ops listed = [] ∧ Q .normal a w
  | fuel + 1, listed, a, w =>
    (Region.ready md ops listed = [] → Q .normal a w) ∧
    ∀ i ∈ Region.ready md ops listed, wpOp P ops Q i (fun a' w' => S (listed.setIfInBounds i true) w' ∧ wpAnyS P md ops Q S fuel (listed.setIfInBounds i true) a' w') a w

theorem wpAny_of_S : ∀ (fuel : Nat) (listed : Array Bool) (a : Act) (w : World), wpAnyS P md ops Q S fuel listed a w → wpAny P md ops Q fuel listed a w
  | 0, _, _, _, h => h
  | fuel + 1, _, _, _, h => ⟨h.1, fun i hi => wpOp_mono (fun a' w' h' => wpAny_of_S fuel _ a' w' h'.2) (h.2 i hi)⟩

/-- what has come up is closed -/
def Closed (md : Region.Mode) (ops : Array Oper) (listed : Array Bool) : Prop := ∀ j o, ops[j]? = some o → listed.getD j false = true → ∀ e ∈ o.after, Region.binds md e = true → listed.getD e.on false = true

theorem Closed.set {listed : Array Bool} {j : Nat} (hc : Closed md ops listed) (hj : j ∈ Region.ready md ops listed) : Closed md ops (listed.setIfInBounds j true) := by
  intro k o hk hl e he hb
  by_cases hjk : k = j
  · subst hjk
    obtain ⟨_, o', ho', hall⟩ := mem_ready.1 hj
    rw [hk] at ho'
    cases ho'
    exact getD_set_true (hall e he hb)
  · rw [getD_set_ne false (fun e => hjk e.symm)] at hl
    exact getD_set_true (hc k o hk hl e he hb)

theorem wpAnyS_first {i : Nat} {oi : Oper} {v : Value} (hi : ops[i]? = some oi) (hsel : ∀ (j : Nat) (o : Oper) cs b, ops[j]? = some o → o.op ≠ .select cs b)
    (hQ : ∀ c a w, Q (.panic c) (a.put oi.dst v) w → Q (.panic c) a w) (hSi : ∀ L w, S (L.setIfInBounds i true) w ↔ S L w) :
    ∀ (fuel : Nat) (listed : Array Bool) (a : Act) (w : World),
      (∀ j oj, ops[j]? = some oj → j ≠ i → listed.getD j true = false → (∀ e ∈ oj.after, Region.binds md e = true → e.on ≠ i) → oi.apart ops oj = true) →
      Closed md ops listed → i ∈ Region.ready md ops listed → YieldsIf P ops (fun w => ∃ L, Closed md ops L ∧ L.getD i true = false ∧ S L w) oi v a → S listed w →
      wpAnyS P md ops Q S fuel (listed.setIfInBounds i true) (a.put oi.dst v) w → wpAnyS P md ops Q S (fuel + 1) listed a w := by
  intro fuel
  induction fuel with
  | zero =>
    intro listed a w _ hcl hr hy hS H
    refine ⟨fun h => (by rw [h] at hr; cases hr), fun j hj => ?_⟩
    by_cases hji : j = i
    · subst hji; exact hy.wpOp hi ⟨listed, hcl, (mem_ready.1 hr).1, hS⟩ ⟨(hSi _ _).2 hS, H⟩
    · have := ready_mono hj hji
      rw [H.1] at this
      cases this
  | succ fuel ih =>
    intro listed a w hfree hcl hr hy hS H
    refine ⟨fun h => (by rw [h] at hr; cases hr), fun j hj => ?_⟩
    by_cases hji : j = i
    · subst hji; exact hy.wpOp hi ⟨listed, hcl, (mem_ready.1 hr).1, hS⟩ ⟨(hSi _ _).2 hS, H⟩
    · have h1 := H.2 j (ready_mono hj hji)
      obtain ⟨hjun, oj, hoj, hall⟩ := mem_ready.1 hj
      have hnot : ∀ e ∈ oj.after, Region.binds md e = true → e.on ≠ i := fun e he hb heq => by
        have h1 := hall e he hb
        have h0 := (mem_ready.1 hr).1
        rw [heq] at h1
        rcases Nat.lt_or_ge i listed.size with h' | h'
        · simp [h'] at h0 h1; rw [h0] at h1; cases h1
        · simp [Array.getElem?_eq_none h'] at h1
      have h2 := wpOp_putIf hoj (hfree j oj hoj hji hjun hnot) (fun cs b => hsel i oi cs b hi) (fun cs b => hsel j oj cs b hoj) hQ hy h1
      have hfree' : ∀ k ok, ops[k]? = some ok → k ≠ i → (listed.setIfInBounds j true).getD k true = false →
          (∀ e ∈ ok.after, Region.binds md e = true → e.on ≠ i) → oi.apart ops ok = true := fun k ok hk hki hun hno => by
        refine hfree k ok hk hki ?_ hno
        by_cases hjk : j = k
        · subst hjk; exact hjun
        · rw [getD_set_ne true hjk] at hun; exact hun
      refine wpOp_mono (fun a' w' h3 => ?_) h2
      have h4 : S (listed.setIfInBounds j true) w' := by
        have := h3.2.1
        rw [Array.setIfInBounds_comm _ _ (Ne.symm hji)] at this
        exact (hSi _ _).1 this
      refine ⟨h4, ih (listed.setIfInBounds j true) a' w' hfree' (hcl.set hj) (ready_mono hr (Ne.symm hji)) h3.1 h4 ?_⟩
      rw [Array.setIfInBounds_comm _ _ hji]
      exact h3.2.2
end
end Go.Dx
