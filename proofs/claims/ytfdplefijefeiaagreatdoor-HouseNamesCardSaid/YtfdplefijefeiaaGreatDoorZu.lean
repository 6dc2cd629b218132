/- D: a call, whole. -/
import Derived.Test.YtfdplefijefeiaaGreatDoorZt
namespace Go.Dx
open Go

theorem frameD_get : ∀ (vs : List DV) (i : Nat) (t : Fr) (n : Nat), (frameD i vs t).get n = if i ≤ n ∧ n < i + vs.length then vs[n - i]? else t.get n
  | [], i, t, n => by
    have : ¬ (i ≤ n ∧ n < i + ([] : List DV).length) := by simp only [List.length_nil]; omega
    rw [if_neg this]
    rfl
  | v :: vs, i, t, n => by
    simp only [frameD]
    rw [frameD_get vs (i + 1), Tr.get_set]
    simp only [List.length_cons]
    by_cases h1 : i + 1 ≤ n ∧ n < i + 1 + vs.length
    · rw [if_pos h1, if_pos (by omega)]
      obtain ⟨k, hk⟩ : ∃ k, n - i = k + 1 := ⟨n - i - 1, by omega⟩
      rw [hk, List.getElem?_cons_succ]
      congr 1
      omega
    · rw [if_neg h1]
      by_cases h2 : n = i
      · subst h2
        rw [if_pos rfl, if_pos (by omega), Nat.sub_self, List.getElem?_cons_zero]
      · rw [if_neg h2, if_neg (by omega)]

theorem frame_ok {e : Env} {args : List DV} {rargs : Array Value} (k : Nat) (h : vals e args = some rargs.toList) : FrR e (frameD 0 args .nil) (rargs ++ Array.replicate k undef) := by
  intro n
  have hl := vals_length h
  rw [frameD_get]
  have hl' : rargs.size = args.length := by simpa using hl
  by_cases hn : n < args.length
  · rw [if_pos (by omega), Nat.sub_zero]
    obtain ⟨v, hv⟩ : ∃ v, args[n]? = some v := ⟨_, List.getElem?_eq_getElem hn⟩
    obtain ⟨rv, hrv, h1⟩ := vals_get h hv
    rw [hv, Option.getD_some, h1]
    have hrv' : rargs[n]? = some rv := by simpa using hrv
    rw [Array.getD_eq_getD_getElem?, Array.getElem?_append_left (by omega), hrv']
    rfl
  · rw [if_neg (by omega)]
    rw [show (Tr.nil : Fr).get n = none from rfl, Option.getD_none, undef_val]
    rw [Array.getD_eq_getD_getElem?, Array.getElem?_append_right (by omega)]
    by_cases hk : n - rargs.size < k
    · rw [Array.getElem?_replicate, if_pos hk]; rfl
    · rw [Array.getElem?_replicate, if_neg hk]; rfl

/-- the own program stands for the model's -/
structure ProgOk (P : Program) (D : DProg) (dr : Func → Array Oper → Option (List (DOper × SK))) : Prop where
  ops : DOk P D
  funcs : ∀ f d, D.funcs f = some d → ∃ fn, P.funcs[f]? = some fn ∧ funcN P dr fn = some d
  spec : ∀ f s, D.spec f = some s → ∀ (e : Env) (h : DHeap) (w : World) (args : List DV) (v : DV) (h' : DHeap) (rargs : Array Value), s args h = some (v, h') → Glob P e → Rep e h w → vals e args = some rargs.toList →
    (∃ f' args', (callFunc f rargs).run P w = .ok (.enter f' args') w ∧ Calls P f' args' w fun en w' => ∃ e' rv, en = .returned rv ∧ Step e h w e' h' w' ∧ val e' v = some rv) ∨
    (∃ rv e' w', (callFunc f rargs).run P w = .ok (.value rv) w' ∧ Step e h w e' h' w' ∧ val e' v = some rv)
  draws : ∀ call, CallOk P call → ∀ fn ops dl, dr fn ops = some dl → DrawOk P D call fn.ntmps ops dl

theorem call_sound {P : Program} {D : DProg} {dr : Func → Array Oper → Option (List (DOper × SK))} (hp : ProgOk P D dr) (fuel : Nat) : ∀ n, CallOk P (callD D fuel n)
  | 0 => fun e h w f args v h' rargs hr _ _ _ => by simp [callD] at hr
  | n + 1 => fun e h w f args v h' rargs hr hg r hvs => by
    simp only [callD] at hr
    split at hr
    · next s hs => exact hp.spec f s hs e h w args v h' rargs hr hg r hvs
    · split at hr
      · next d hd =>
        obtain ⟨fn, hf, hfn⟩ := hp.funcs f d hd
        unfold funcN at hfn
        split at hfn
        · cases hfn
        · next hname =>
          obtain ⟨b, hb, hfn⟩ := bind_some hfn
          obtain ⟨rs, hrs, hfn⟩ := bind_some hfn
          obtain ⟨c, hc, rfl⟩ := Option.map_eq_some_iff.mp hfn
          refine .inl ⟨f, rargs, (by simp [callFunc, hf, hb, show fn.name ≠ "runtime.NumGoroutine" by simpa using hname]), calls_of_wp hf hb ?_⟩
          have hC := code_sound (fuel := fuel) hp.ops (call_sound hp fuel n) (hp.draws _ (call_sound hp fuel n) fn) b c hc
          have hfr := frame_ok (fn.ntmps - rargs.size) hvs
          have hsz : fn.ntmps ≤ (rargs ++ Array.replicate (fn.ntmps - rargs.size) undef).size := by simp; omega
          simp only at hr
          have fin : ∀ (ex : Ex) t h1, codeD D (callD D fuel n) fuel c (frameD 0 args .nil) h = some (ex, t, h1) → (ex = .normal ∨ ex = .ret) → retD t h1 rs = some v → h1 = h' →
              b.wp P (bodyPost P fn fun en w' => ∃ e' rv, en = .returned rv ∧ Step e h w e' h' w' ∧ val e' v = some rv) { tmps := rargs ++ Array.replicate (fn.ntmps - rargs.size) undef, defers := [] } w := by
            intro ex t h1 hrun hex hret hh
            subst hh
            refine hC e _ ⟨_, []⟩ h w ex t h1 _ hg hfr hsz r hrun fun e' a' w' st hf' _ hd' => ?_
            obtain ⟨rv, hrr, hval⟩ := results_ok hf' st.rep hrs hret
            rcases hex with rfl | rfl
            · exact bodyPost_end hrr hd' ⟨e', rv, rfl, st, hval⟩
            · exact bodyPost_ret hrr hd' ⟨e', rv, rfl, st, hval⟩
          split at hr
          · cases hr
          · next ex t h1 hne hrun =>
            split at hr
            · next v1 hret =>
              simp only [Option.some.injEq, Prod.mk.injEq] at hr
              obtain ⟨rfl, rfl⟩ := hr
              refine fin ex t _ hrun ?_ hret rfl
              cases ex with
              | normal => exact .inl rfl
              | ret => exact .inr rfl
              | exit i => exact (hne _ rfl).elim
            · cases hr
          · cases hr
      · cases hr
end Go.Dx
