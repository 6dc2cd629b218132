/- D: code. -/
import Derived.Test.YtfdplefijefeiaaGreatDoorZr
import Derived.Scope
namespace Go.Dx
open Go

def exitOf : Ex → Exit
  | .normal => .normal
  | .exit id => .exit id
  | .ret => .ret

/-- compile code; `dr` compiles the regions that draw -/
def codeN (P : Program) (n : Nat) (dr : Array Oper → Option (List (DOper × SK))) : Code → Option DCode
  | .skip => some .skip
  | .region _ ops draw => match draw with
    | true => (dr ops).map .draw
    | false => (ops.toList.mapM (operN P n ops)).map .region
  | .seq a b => (codeN P n dr a).bind fun x => (codeN P n dr b).map fun y => .seq x y
  | .cond c a b => (opdD P c).bind fun z => (codeN P n dr a).bind fun x => (codeN P n dr b).map fun y => .cond z x y
  | .block id c => (codeN P n dr c).map (.block id)
  | .loop c => (codeN P n dr c).map .loop
  | .exit id => some (.exit id)
  | .ret => some .ret
  | .scope c => codeN P n dr c
  | .label _ => some .skip
  | _ => none

/-- what a compiled region that draws stands for -/
def DrawOk (P : Program) (D : DProg) (call : Caller) (n : Nat) (ops : Array Oper) (dl : List (DOper × SK)) : Prop :=
  ∀ (id : Nat) (Q : Exit → Act → World → Prop) (e : Env) (t : Fr) (a : Act) (h : DHeap) (w : World) (t' : Fr) (h' : DHeap), Glob P e → FrR e t a.tmps → n ≤ a.tmps.size → Rep e h w →
    drawD D call dl [] t h = some (t', h') → (∀ e' a' w', Step e h w e' h' w' → FrR e' t' a'.tmps → n ≤ a'.tmps.size → a'.defers = a.defers → Q .normal a' w') → (Code.region id ops true).wp P Q a w

theorem wp_loop_n {P : Program} {c : Code} {Q : Exit → Act → World → Prop} (I : Nat → Act → World → Prop) (round : ∀ k a w, I k a w → c.wp P (Exit.then (fun a' w' => ∃ k', k' < k ∧ I k' a' w') Q) a w)
    {a : Act} {w : World} {n : Nat} (h₀ : I n a w) : (Code.loop c).wp P Q a w := by
  intro b k cs
  have key : ∀ n a w, I n a w →
      ∃ e a' w', Q e a' w' ∧ Arrives P (lone (b.at a (.code c :: .inLoop c :: k)) cs w) b k cs e a' w' := by
    intro n
    induction n using Nat.strongRecOn with
    | _ n ih =>
      intro a w hI
      obtain ⟨e, a₁, w₁, hq, harr⟩ := round n a w hI b (.inLoop c :: k) cs
      cases e with
      | normal =>
        obtain ⟨k', hlt, hI₁⟩ := hq
        obtain ⟨e₂, a₂, w₂, hq₂, harr₂⟩ := ih k' hlt a₁ w₁ hI₁
        exact ⟨e₂, a₂, w₂, hq₂, .of_steps (Steps.trans harr (.one step_inLoop)) harr₂⟩
      | exit id => exact ⟨_, a₁, w₁, hq, .pass (x := .inLoop c) rfl (fun _ _ => .inl (by simp)) harr⟩
      | goto l => exact ⟨_, a₁, w₁, hq, .pass (x := .inLoop c) rfl (fun _ _ => .inl (by simp)) harr⟩
      | ret => exact ⟨_, a₁, w₁, hq, .pass (x := .inLoop c) rfl (fun _ _ => .inl (by simp)) harr⟩
      | panic ch => exact ⟨_, a₁, w₁, hq, .pass (x := .inLoop c) rfl (fun _ _ => .inl (by simp)) harr⟩
      | outgrown => exact ⟨_, a₁, w₁, hq, .pass (x := .inLoop c) rfl (fun _ _ => .inl (by simp)) harr⟩
  obtain ⟨e, a', w', hq, harr⟩ := key _ a w h₀
  exact ⟨e, a', w', hq, .of_steps (.one step_loop) harr⟩

/-- what a compiled code stands for -/
def CodeOk (P : Program) (n : Nat) (c : Code) (run : Fr → DHeap → Option (Ex × Fr × DHeap)) : Prop :=
  ∀ (e : Env) (t : Fr) (a : Act) (h : DHeap) (w : World) (ex : Ex) (t' : Fr) (h' : DHeap) (Q : Exit → Act → World → Prop), Glob P e → FrR e t a.tmps → n ≤ a.tmps.size → Rep e h w →
    run t h = some (ex, t', h') → (∀ e' a' w', Step e h w e' h' w' → FrR e' t' a'.tmps → n ≤ a'.tmps.size → a'.defers = a.defers → Q (exitOf ex) a' w') → c.wp P Q a w

theorem code_sound {P : Program} {D : DProg} {call : Caller} {n fuel : Nat} {dr : Array Oper → Option (List (DOper × SK))} (hD : DOk P D) (hcall : CallOk P call)
    (hdr : ∀ ops dl, dr ops = some dl → DrawOk P D call n ops dl) : ∀ (c : Code) (d : DCode), codeN P n dr c = some d → CodeOk P n c (codeD D call fuel d)
  | .skip, d, hc => by
    simp only [codeN, Option.some.injEq] at hc
    subst hc
    intro e t a h w ex t' h' Q hg hf hn r hr hQ
    simp only [codeD, Option.some.injEq, Prod.mk.injEq] at hr
    obtain ⟨rfl, rfl, rfl⟩ := hr
    exact wp_skip (hQ e a w (Step.refl r) hf hn rfl)
  | .label _, d, hc => by
    simp only [codeN, Option.some.injEq] at hc
    subst hc
    intro e t a h w ex t' h' Q hg hf hn r hr hQ
    simp only [codeD, Option.some.injEq, Prod.mk.injEq] at hr
    obtain ⟨rfl, rfl, rfl⟩ := hr
    exact wp_label (hQ e a w (Step.refl r) hf hn rfl)
  | .exit id, d, hc => by
    simp only [codeN, Option.some.injEq] at hc
    subst hc
    intro e t a h w ex t' h' Q hg hf hn r hr hQ
    simp only [codeD, Option.some.injEq, Prod.mk.injEq] at hr
    obtain ⟨rfl, rfl, rfl⟩ := hr
    exact wp_exit (hQ e a w (Step.refl r) hf hn rfl)
  | .ret, d, hc => by
    simp only [codeN, Option.some.injEq] at hc
    subst hc
    intro e t a h w ex t' h' Q hg hf hn r hr hQ
    simp only [codeD, Option.some.injEq, Prod.mk.injEq] at hr
    obtain ⟨rfl, rfl, rfl⟩ := hr
    exact wp_ret (hQ e a w (Step.refl r) hf hn rfl)
  | .region id ops draw, d, hc => by
    simp only [codeN] at hc
    cases draw with
    | true =>
      simp only at hc
      obtain ⟨dl, hdl, rfl⟩ := Option.map_eq_some_iff.mp hc
      intro e t a h w ex t' h' Q hg hf hn r hr hQ
      simp only [codeD] at hr
      split at hr
      · next t1 h1 hrr =>
        simp only [Option.some.injEq, Prod.mk.injEq] at hr
        obtain ⟨rfl, rfl, rfl⟩ := hr
        exact hdr ops dl hdl id Q e t a h w t1 h1 hg hf hn r hrr hQ
      · cases hr
    | false =>
      simp only at hc
      obtain ⟨dl, hdl, rfl⟩ := Option.map_eq_some_iff.mp hc
      intro e t a h w ex t' h' Q hg hf hn r hr hQ
      simp only [codeD] at hr
      split at hr
      · next t1 h1 hrr =>
        simp only [Option.some.injEq, Prod.mk.injEq] at hr
        obtain ⟨rfl, rfl, rfl⟩ := hr
        exact wp_region_list (wpList_D hD hcall _ _ hdl e t a h w t1 h1 hg hf hn r hrr hQ)
      · cases hr
  | .seq x y, d, hc => by
    simp only [codeN] at hc
    obtain ⟨dx, hx, hc⟩ := bind_some hc
    obtain ⟨dy, hy, rfl⟩ := Option.map_eq_some_iff.mp hc
    intro e t a h w ex t' h' Q hg hf hn r hr hQ
    have hX := code_sound (fuel := fuel) hD hcall hdr x dx hx
    have hY := code_sound (fuel := fuel) hD hcall hdr y dy hy
    refine wp_seq ?_
    simp only [codeD] at hr
    split at hr
    · next t1 h1 h1r =>
      refine hX e t a h w _ t1 h1 _ hg hf hn r h1r fun e1 a1 w1 st hf1 hn1 hd1 => ?_
      exact hY e1 t1 a1 h1 w1 ex t' h' _ (hg.le st.le) hf1 hn1 st.rep hr fun e' a' w' st' hf' hn' hd' => hQ e' a' w' (st.trans st') hf' hn' (hd'.trans hd1)
    · next hne =>
      refine hX e t a h w ex t' h' _ hg hf hn r hr fun e1 a1 w1 st hf1 hn1 hd1 => ?_
      cases ex with
      | normal => exact (hne _ _ hr).elim
      | exit id => exact hQ e1 a1 w1 st hf1 hn1 hd1
      | ret => exact hQ e1 a1 w1 st hf1 hn1 hd1
  | .cond c x y, d, hc => by
    simp only [codeN] at hc
    obtain ⟨z, hz, hc⟩ := bind_some hc
    obtain ⟨dx, hx, hc⟩ := bind_some hc
    obtain ⟨dy, hy, rfl⟩ := Option.map_eq_some_iff.mp hc
    intro e t a h w ex t' h' Q hg hf hn r hr hQ
    have hv := opd_ok hg hf hz
    simp only [codeD] at hr
    split at hr
    · next hb =>
      rw [hb] at hv
      simp only [val, Option.some.injEq] at hv
      exact wp_cond_true hv.symm (code_sound (fuel := fuel) hD hcall hdr x dx hx e t a h w ex t' h' Q hg hf hn r hr hQ)
    · next hb =>
      rw [hb] at hv
      simp only [val, Option.some.injEq] at hv
      exact wp_cond_false hv.symm (code_sound (fuel := fuel) hD hcall hdr y dy hy e t a h w ex t' h' Q hg hf hn r hr hQ)
    · cases hr
  | .block id c, d, hc => by
    simp only [codeN] at hc
    obtain ⟨dc, hcc, rfl⟩ := Option.map_eq_some_iff.mp hc
    intro e t a h w ex t' h' Q hg hf hn r hr hQ
    have hC := code_sound (fuel := fuel) hD hcall hdr c dc hcc
    refine wp_block ?_
    simp only [codeD] at hr
    split at hr
    · next i t1 h1 h1r =>
      refine hC e t a h w _ t1 h1 _ hg hf hn r h1r fun e1 a1 w1 st hf1 hn1 hd1 => ?_
      simp only [exitOf, Exit.inBlock]
      split at hr
      · next hi =>
        simp only [Option.some.injEq, Prod.mk.injEq] at hr
        obtain ⟨rfl, rfl, rfl⟩ := hr
        rw [if_pos hi]
        exact hQ e1 a1 w1 st hf1 hn1 hd1
      · next hi =>
        simp only [Option.some.injEq, Prod.mk.injEq] at hr
        obtain ⟨rfl, rfl, rfl⟩ := hr
        rw [if_neg hi]
        exact hQ e1 a1 w1 st hf1 hn1 hd1
    · next hne =>
      refine hC e t a h w ex t' h' _ hg hf hn r hr fun e1 a1 w1 st hf1 hn1 hd1 => ?_
      cases ex with
      | exit i => exact (hne _ _ _ hr).elim
      | normal => exact hQ e1 a1 w1 st hf1 hn1 hd1
      | ret => exact hQ e1 a1 w1 st hf1 hn1 hd1
  | .loop c, d, hc => by
    simp only [codeN] at hc
    obtain ⟨dc, hcc, rfl⟩ := Option.map_eq_some_iff.mp hc
    intro e t a h w ex t' h' Q hg hf hn r hr hQ
    have hC := code_sound (fuel := fuel) hD hcall hdr c dc hcc
    simp only [codeD] at hr
    refine wp_loop_n (fun k a1 w1 => ∃ e1 t1 h1, Step e h w e1 h1 w1 ∧ FrR e1 t1 a1.tmps ∧ n ≤ a1.tmps.size ∧ a1.defers = a.defers ∧ iterD (codeD D call fuel dc) k t1 h1 = some (ex, t', h')) (fun k a1 w1 ⟨e1, t1, h1, st, hf1, hn1, hd1, hit⟩ => ?_) (n := fuel) ⟨e, t, h, Step.refl r, hf, hn, rfl, hr⟩
    cases k with
    | zero => simp [iterD] at hit
    | succ k =>
      simp only [iterD] at hit
      split at hit
      · next t2 h2 h2r =>
        exact hC e1 t1 a1 h1 w1 _ t2 h2 _ (hg.le st.le) hf1 hn1 st.rep h2r fun e' a' w' st' hf' hn' hd' => ⟨k, Nat.lt_succ_self k, e', t2, h2, st.trans st', hf', hn', hd'.trans hd1, hit⟩
      · next hne =>
        refine hC e1 t1 a1 h1 w1 ex t' h' _ (hg.le st.le) hf1 hn1 st.rep hit fun e' a' w' st' hf' hn' hd' => ?_
        have := hQ e' a' w' (st.trans st') hf' hn' (hd'.trans hd1)
        cases ex with
        | normal => exact (hne _ _ hit).elim
        | exit i => exact this
        | ret => exact this
  | .scope c, d, hc => by
    simp only [codeN] at hc
    intro e t a h w ex t' h' Q hg hf hn r hr hQ
    refine wp_scope_straight (code_sound (fuel := fuel) hD hcall hdr c d hc e t a h w ex t' h' _ hg hf hn r hr fun e' a' w' st hf' hn' hd' => ?_)
    have := hQ e' a' w' st hf' hn' hd'
    cases ex <;> exact this
  | .rangeFunc .., d, hc => by simp [codeN] at hc
  | .goto _, d, hc => by simp [codeN] at hc
  | .refuse _, d, hc => by simp [codeN] at hc
end Go.Dx
