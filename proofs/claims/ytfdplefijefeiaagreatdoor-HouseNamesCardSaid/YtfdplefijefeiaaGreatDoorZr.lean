/- D: a plain region. -/
import Derived.Test.YtfdplefijefeiaaGreatDoorZq
import Derived.Tactics
namespace Go.Dx
open Go

/-- what an own call stands for -/
def CallOk (P : Program) (call : Caller) : Prop :=
  ∀ (e : Env) (h : DHeap) (w : World) (f : FuncId) (args : List DV) (v : DV) (h' : DHeap) (rargs : Array Value), call f args h = some (v, h') → Glob P e → Rep e h w → vals e args = some rargs.toList →
    (∃ f' args', (callFunc f rargs).run P w = .ok (.enter f' args') w ∧ Calls P f' args' w fun en w' => ∃ e' rv, en = .returned rv ∧ Step e h w e' h' w' ∧ val e' v = some rv) ∨
    (∃ rv e' w', (callFunc f rargs).run P w = .ok (.value rv) w' ∧ Step e h w e' h' w' ∧ val e' v = some rv)

theorem val_bool {e : Env} {v : DV} {c : Bool} (h : val e v = some (.bool c)) : v = .bool c := by
  cases v <;> simp only [val] at h <;> first | (cases h; rfl) | (exfalso; revert h; first | (split <;> intro h <;> cases h) | (intro h; cases h))

theorem FrR.put {e e' : Env} {t : Fr} {a : Act} (hf : FrR e t a.tmps) (l : Env.le e e') {v : DV} {rv : Value} (hv : val e' v = some rv) {d : Option Nat} (hd : ∀ k, d = some k → k < a.tmps.size) : FrR e' (Fr.put t d v) (a.put d rv).tmps := by
  have hf' := hf.le l
  cases d with
  | none => exact hf'
  | some k =>
    intro n
    have hk := hd k rfl
    simp only [Fr.put, Act.put, Tr.get_set]
    by_cases hn : n = k
    · subst hn
      simp only [if_true, Option.getD_some]
      rw [hv]
      simp [Array.getD, hk]
    · simp only [if_neg hn]
      rw [hf' n]
      have hn' : ¬ k = n := fun e => hn e.symm
      rw [Array.getD_eq_getD_getElem?, Array.getD_eq_getD_getElem?, Array.getElem?_setIfInBounds_ne hn']

theorem wanted_ok {e : Env} {t : Fr} {a : Act} {ops : Array Oper} {o : Oper} {g : Option (Nat × Bool)} (hf : FrR e t a.tmps)
    (hg : (match o.guard with | none => some none | some (j, b) => ((ops[j]?).bind (·.dst)).map fun d => some (d, b)) = some g) :
    Region.wanted o (yielded ops a.tmps) = wantedD g t := by
  unfold Region.wanted
  split at hg
  · next hn => cases hg; rw [hn]; rfl
  · next j b hn =>
    rw [hn]
    obtain ⟨d, hd, rfl⟩ := Option.map_eq_some_iff.mp hg
    simp only [wantedD, yielded, hd, Option.bind_some]
    have hv := hf d
    cases ht : t.get d with
    | none =>
      rw [ht] at hv
      simp only [Option.getD_none, undef_val, Option.some.injEq] at hv
      cases hx : a.tmps[d]? with
      | none => rfl
      | some x =>
        have : x = undef := by
          rw [Array.getD_eq_getD_getElem?, hx] at hv
          exact hv.symm
        subst this
        rfl
    | some y =>
      rw [ht] at hv
      simp only [Option.getD_some] at hv
      cases hx : a.tmps[d]? with
      | none =>
        rw [Array.getD_eq_getD_getElem?, hx] at hv
        have hy : ∀ c, y ≠ .bool c := fun c hc => by subst hc; simp [val, undef] at hv
        cases y <;> first | rfl | exact absurd rfl (hy _)
      | some x =>
        rw [Array.getD_eq_getD_getElem?, hx] at hv
        simp only [Option.getD_some] at hv
        by_cases hb : ∃ c, x = .bool c
        · obtain ⟨c, rfl⟩ := hb
          have := val_bool hv
          subst this
          cases b <;> cases c <;> rfl
        · have hy : ∀ c, y ≠ .bool c := fun c hc => by
            subst hc
            simp only [val, Option.some.injEq] at hv
            exact hb ⟨c, hv.symm⟩
          cases x <;> first | exact absurd ⟨_, rfl⟩ hb | (cases y <;> first | rfl | exact absurd rfl (hy _))

theorem operC_some {P : Program} {ops : Array Oper} {o : Oper} {d : DOper} (hc : operC P ops o = some d) :
    ∃ g op, (match o.guard with | none => some none | some (j, b) => ((ops[j]?).bind (·.dst)).map fun d => some (d, b)) = some g ∧ opC P o = some op ∧ d = ⟨o.dst, g, op⟩ := by
  unfold operC at hc
  simp only [Option.bind_eq_bind, Option.pure_def] at hc
  cases hgu : o.guard with
  | none =>
    rw [hgu] at hc
    simp only [Option.bind_some] at hc
    obtain ⟨op, hop, hc⟩ := bind_some hc
    cases hc
    exact ⟨_, _, rfl, hop, rfl⟩
  | some p =>
    obtain ⟨j, b⟩ := p
    rw [hgu] at hc
    simp only at hc
    obtain ⟨g, hg, hc⟩ := bind_some hc
    obtain ⟨op, hop, hc⟩ := bind_some hc
    cases hc
    exact ⟨_, _, hg, hop, rfl⟩

/-- compile one operation; its slot lies in the frame -/
def operN (P : Program) (n : Nat) (ops : Array Oper) (o : Oper) : Option DOper :=
  if o.dst.all (fun k => Nat.blt k n) then operC P ops o else none

theorem oper_sound {P : Program} {D : DProg} {call : Caller} {n : Nat} {ops : Array Oper} {o : Oper} {d : DOper} (hD : DOk P D) (hc : operN P n ops o = some d)
    (hcall : CallOk P call) {e : Env} {t : Fr} {a : Act} {h : DHeap} {w : World} (hg : Glob P e) (hf : FrR e t a.tmps) (hn : n ≤ a.tmps.size) (r : Rep e h w)
    {t' : Fr} {h' : DHeap} {os : List DOper} {out : Fr × DHeap} (hr : regionD D call (d :: os) t h = some out) {K : Act → World → Prop} {Q : Exit → Act → World → Prop}
    (hK : ∀ e' t' h' a' w', Step e h w e' h' w' → FrR e' t' a'.tmps → n ≤ a'.tmps.size → a'.defers = a.defers → regionD D call os t' h' = some out → K a' w') :
    if Region.wanted o (yielded ops a.tmps) then o.wp P a w K Q else K (a.put o.dst undef) w := by
  unfold operN at hc
  split at hc
  · next hdst =>
    have hdst' : ∀ k, o.dst = some k → k < a.tmps.size := fun k hk => by
      rw [hk] at hdst
      exact Nat.lt_of_lt_of_le (Nat.blt_eq.mp (by simpa using hdst)) hn
    obtain ⟨g, op, hgu, hop, rfl⟩ := operC_some hc
    have hput : ∀ v, n ≤ (a.put o.dst v).tmps.size := fun v => by cases o.dst <;> simp [Act.put, hn]
    have hdef : ∀ v, (a.put o.dst v).defers = a.defers := fun v => by cases o.dst <;> rfl
    rw [wanted_ok hf hgu]
    simp only [regionD] at hr
    split at hr
    · next hw =>
      rw [if_pos hw]
      unfold Oper.wp
      split at hr
      · next v hx =>
        obtain ⟨rv, hrun, hval⟩ := op_sound hD hg hf r hop hx
        rw [hrun]
        exact hK e _ _ _ _ (Step.refl r) (hf.put (Env.le.refl e) hval hdst') (hput _) (hdef _) hr
      · next v h1 hx =>
        obtain ⟨e', w', st, hv⟩ := op_sound hD hg hf r hop hx
        rcases hv with ⟨rv, hrun, hval⟩ | ⟨hrun, rfl⟩
        · rw [hrun]
          exact hK e' _ _ _ _ st (hf.put st.le hval hdst') (hput _) (hdef _) hr
        · rw [hrun]
          exact hK e' _ _ _ _ st (hf.put st.le (undef_val _) hdst') (hput _) (hdef _) hr
      · next f args h1 hx =>
        obtain ⟨rfl, rargs, hrun, hvs⟩ := op_sound hD hg hf r hop hx
        rw [hrun]
        split at hr
        · next v h2 hcl =>
          rcases hcall e h1 w f args v h2 rargs hcl hg r hvs with ⟨f', args', h3, h4⟩ | ⟨rv, e', w', h3, st, hval⟩
          · rw [h3, Oper.upon_enter]
            refine h4.mono fun en w' ⟨e', rv, he, st, hval⟩ => ?_
            subst he
            exact hK e' _ _ _ _ st (hf.put st.le hval hdst') (hput _) (hdef _) hr
          · rw [h3]
            exact hK e' _ _ _ _ st (hf.put st.le hval hdst') (hput _) (hdef _) hr
        · cases hr
      · cases hr
    · next hw =>
      rw [if_neg hw]
      exact hK e _ _ _ _ (Step.refl r) (hf.put (Env.le.refl e) (undef_val _) hdst') (hput _) (hdef _) hr
  · cases hc

theorem wpList_D {P : Program} {D : DProg} {call : Caller} {n : Nat} {ops : Array Oper} {Q : Exit → Act → World → Prop} (hD : DOk P D) (hcall : CallOk P call) :
    ∀ (l : List Oper) (dl : List DOper), l.mapM (operN P n ops) = some dl → ∀ (e : Env) (t : Fr) (a : Act) (h : DHeap) (w : World) (t' : Fr) (h' : DHeap), Glob P e → FrR e t a.tmps → n ≤ a.tmps.size → Rep e h w →
      regionD D call dl t h = some (t', h') → (∀ e' a' w', Step e h w e' h' w' → FrR e' t' a'.tmps → n ≤ a'.tmps.size → a'.defers = a.defers → Q .normal a' w') → wpList P ops Q l a w
  | [], dl, hm, e, t, a, h, w, t', h', hg, hf, hn, r, hr, hQ => by
    simp only [List.mapM_nil, Option.pure_def, Option.some.injEq] at hm
    subst hm
    simp only [regionD, Option.some.injEq, Prod.mk.injEq] at hr
    obtain ⟨rfl, rfl⟩ := hr
    exact hQ e a w (Step.refl r) hf hn rfl
  | o :: l, dl, hm, e, t, a, h, w, t', h', hg, hf, hn, r, hr, hQ => by
    simp only [List.mapM_cons, Option.bind_eq_bind, Option.pure_def] at hm
    obtain ⟨d, hd, hm⟩ := bind_some hm
    obtain ⟨ds, hds, hm⟩ := bind_some hm
    cases hm
    refine wpList_step fun K hK => oper_sound hD hd hcall hg hf hn r (t' := t') (h' := h') hr fun e1 t1 h1 a1 w1 st hf1 hn1 hdf1 hr1 => hK _ _ ?_
    exact wpList_D hD hcall l ds hds e1 t1 a1 h1 w1 t' h' (hg.le st.le) hf1 hn1 st.rep hr1 fun e' a' w' st' hf' hn' hdf' => hQ e' a' w' (st.trans st') hf' hn' (hdf'.trans hdf1)
end Go.Dx
