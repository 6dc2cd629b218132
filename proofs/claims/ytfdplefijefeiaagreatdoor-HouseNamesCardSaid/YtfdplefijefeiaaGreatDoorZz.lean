/- D: REGIONS THAT DRAW ARE SOUND. -/
import Derived.Test.YtfdplefijefeiaaGreatDoorZy
namespace Go.Dx
open Go
section
variable {P : Program} {ops : Array Oper} {Q : Exit → Act → World → Prop} {md : Region.Mode}

theorem wpAnyS_weaken {S S' : Array Bool → World → Prop} : ∀ {fuel : Nat} {listed : Array Bool} {a : Act} {w : World}, (∀ L w, (∀ j, listed.getD j false = true → L.getD j false = true) → S L w → S' L w) → wpAnyS P md ops Q S fuel listed a w → wpAnyS P md ops Q S' fuel listed a w
  | 0, _, _, _, _, h => h
  | _ + 1, listed, _, _, hs, h => ⟨h.1, fun i hi => wpOp_mono (fun _ _ h' => ⟨hs _ _ (fun j hj => getD_set_true hj) h'.1, wpAnyS_weaken (fun L w hL => hs L w fun j hj => hL j (getD_set_true hj)) h'.2⟩) (h.2 i hi)⟩
theorem wpAnyS_done {S : Array Bool → World → Prop} {listed : Array Bool} {a : Act} {w : World} (hr : Region.ready md ops listed = []) (h : Q .normal a w) : ∀ fuel, wpAnyS P md ops Q S fuel listed a w
  | 0 => ⟨hr, h⟩
  | _ + 1 => ⟨fun _ => h, by rw [hr]; simp⟩

theorem operN_parts {n : Nat} {o : Oper} {d : DOper} (hc : operN P n ops o = some d) : (∀ k, o.dst = some k → k < n) ∧ d.dst = o.dst ∧ opC P o = some d.op ∧
    (match o.guard with | none => some none | some (j, b) => ((ops[j]?).bind (·.dst)).map fun d => some (d, b)) = some d.guard := by
  unfold operN at hc
  split at hc
  · next hdst =>
    obtain ⟨g, op, hgu, hop, rfl⟩ := operC_some hc
    exact ⟨fun k hk => by rw [hk] at hdst; exact Nat.blt_eq.mp (by simpa using hdst), rfl, hop, hgu⟩
  · cases hc
theorem operN_guard {n : Nat} {o : Oper} {d : DOper} (hc : operN P n ops o = some d) (hg : d.guard = none) : o.guard = none := by
  have h := (operN_parts hc).2.2.2
  rw [hg] at h
  split at h
  · next hn => exact hn
  · next j b hn =>
    cases hx : (ops[j]?).bind (·.dst) with
    | none => rw [hx] at h; cases h
    | some x => rw [hx] at h; cases h
theorem wanted_none {o : Oper} (hg : o.guard = none) (tmps : Array Value) : Region.wanted o (yielded ops tmps) = true := by unfold Region.wanted; rw [hg]

/-- a new object: what it yields, and that it may be told of later -/
def LateR (D : DProg) (d : DOp) (rv : Value) (ob : Obj) (B : Nat) : Prop :=
  ∀ (e0 : Env) (h0 : DHeap) (w0 : World) (e : Env) (h : DHeap) (w : World) (t : Fr) (v : DV) (h2 : DHeap), opD D t h d = some (.val v h2) → Step e0 h0 w0 e h w → w.heap[B]? = some ob → B < w.heap.size → w0.heap.size ≤ B → (∀ b x, e b = some x → x.blk ≠ B) →
    ∃ e2, Env.le e e2 ∧ Step e0 h0 w0 e2 h2 w ∧ val e2 v = some rv ∧ ∀ b x, e2 b = some x → e b = some x ∨ x.blk = B
theorem late_cases {o : Oper} {d : DOp} (hl : lateO o = true) (hc : opC P o = some d) : (∃ T z, o.op = .alloc T ∧ zeroT P T = some z ∧ d = .alloc z.cells) ∨ (∃ T, o.op = .makeMap T none ∧ d = .mkMap) := by
  unfold lateO at hl
  split at hl
  · next T ho =>
    unfold opC at hc
    simp only [ho, Option.bind_eq_bind, Option.pure_def] at hc
    obtain ⟨z, hz, hc⟩ := bind_some hc
    cases hc
    exact .inl ⟨T, z, ho, hz, rfl⟩
  · next T ho =>
    unfold opC at hc
    simp only [ho, Option.pure_def] at hc
    cases hc
    exact .inr ⟨T, ho, rfl⟩
  · cases hl
theorem late_quiet {o : Oper} {d : DOp} (hl : lateO o = true) (hc : opC P o = some d) : pureD d = false ∧ readD d = false := by
  rcases late_cases hl hc with ⟨_, _, _, _, rfl⟩ | ⟨_, _, rfl⟩ <;> exact ⟨rfl, rfl⟩
theorem late_ok {o : Oper} {d : DOp} (D : DProg) (hl : lateO o = true) (hc : opC P o = some d) (w : World) :
    ∃ rv ob, (∀ ρ, (execOp ρ o).run P w = .ok (.value rv) (w.alloc ob)) ∧ LateR D d rv ob w.heap.size ∧ ((∃ T, o.op = .alloc T) → rv = .pointer (some ⟨w.heap.size, 0, none⟩)) := by
  rcases late_cases hl hc with ⟨T, z, ho, hz, rfl⟩ | ⟨T, ho, rfl⟩
  · obtain ⟨v, h1, h2⟩ := run_zeroT hz (fun _ => none) w
    refine ⟨.pointer (some ⟨w.heap.size, 0, none⟩), .cells v.cells T (0, 0), fun ρ => ?_, ?_, fun _ => rfl⟩
    · simp [execOp, ho, Instr.alloc, Sem.run_bind, h1, run_newVar]
    · intro e0 h0 w0 e h w2 t v' h2' hop st hB hlt hge hf
      simp only [opD, Option.some.injEq, Nx.val.injEq] at hop
      obtain ⟨rfl, rfl⟩ := hop
      have hv : val e z = some v := by
        obtain ⟨v2, h3, h4⟩ := run_zeroT hz e w
        rw [h1] at h3
        cases h3
        exact h4
      refine ⟨e.add h.next ⟨w.heap.size, 0, 0, 0⟩, Env.le_add (st.rep.new _ (Nat.le_refl _)) _, Step.realize st ⟨w.heap.size, 0, 0, 0⟩ hlt hge hf ?_, add_ptr .., fun b x hx => ?_⟩
      · exact objAt_new (lo := 0) (hi := 0) (more := []) (vals_mono (Env.le_add (st.rep.new _ (Nat.le_refl _)) _) _ _ (cells_val hv)) (by simpa using hB) rfl (by simp) (.inl rfl)
      · unfold Env.add at hx
        split at hx
        · cases hx; exact .inr rfl
        · exact .inl hx
  · refine ⟨.map (some w.heap.size), .map #[] 0, fun ρ => by simp [execOp, ho, Instr.makeMap], ?_, fun ⟨T', hT'⟩ => by rw [ho] at hT'; cases hT'⟩
    intro e0 h0 w0 e h w2 t v' h2' hop st hB hlt hge hf
    simp only [opD, Option.some.injEq, Nx.val.injEq] at hop
    obtain ⟨rfl, rfl⟩ := hop
    refine ⟨e.add h.next ⟨w.heap.size, 0, 0, 1⟩, Env.le_add (st.rep.new _ (Nat.le_refl _)) _, Step.realize st ⟨w.heap.size, 0, 0, 1⟩ hlt hge hf ⟨[], rfl, hB⟩, by simp [val, Env.add], fun b x hx => ?_⟩
    unfold Env.add at hx
    split at hx
    · cases hx; exact .inr rfl
    · exact .inl hx
theorem fa_ok {o : Oper} {d : DOp} {T : TypeId} {s f : Nat} (ho : o.op = .fieldAddr T (.tmp s) f) (hc : opC P o = some d) :
    ∃ off, d = .fieldAddr off (.t s) ∧ ∀ (ρ : Operand → Value) (w : World) (B b : Nat), ρ (.tmp s) = .pointer (some ⟨B, b, none⟩) → (execOp ρ o).run P w = .ok (.value (.pointer (some ⟨B, b + off, none⟩))) w := by
  unfold opC at hc
  simp only [ho, Option.bind_eq_bind, Option.pure_def] at hc
  split at hc
  · next fs hu =>
    obtain ⟨fd, hfd, hc⟩ := bind_some hc; obtain ⟨n, hs, hc⟩ := bind_some hc
    split at hc
    · cases hc
    · next hn0 =>
      simp only [opdD, Option.bind_some, Option.some.injEq] at hc
      subst hc
      refine ⟨_, rfl, fun ρ w B b hρ => ?_⟩
      have hfp : (fieldPlace ⟨B, b, none⟩ fd).run P w = .ok ⟨B, b + fd.offset, none⟩ w := by
        unfold fieldPlace
        simp only [Sem.run_bind, run_sizeT hs, Result.andThen_ok]
        rw [if_neg hn0, Addr.add_mid]
        rfl
      simp [execOp, ho, hρ, Instr.fieldAt, Sem.run_bind, run_underlying hu, hfd, Instr.sureAddr, hfp]
  · cases hc

def SHeld (D : DProg) (e : Env) (held : HeldL) (L : Array Bool) (w : World) : Prop := ∃ e2 h2, Env.le e e2 ∧ Rep e2 h2 w ∧ ∀ x ∈ held, (∀ j ∈ x.2.2.2, L.getD j false = false) → opD D x.2.1 h2 x.1 = some (.same x.2.2.1)
/-- what is let go is let go for those alone that turn something -/
def HeldInv (P : Program) (n : Nat) (ops : Array Oper) (held : HeldL) : Prop := ∀ x ∈ held, ∀ j ∈ x.2.2.2, loud P n ops j = true

/-- what came up ahead of its turn -/
def PdOk (P : Program) (D : DProg) (n : Nat) (ops : Array Oper) (w0 : World) (e : Env) (w : World) (listed : Array Bool) (a : Act) (E : List Pd) (p : Pd) : Prop :=
  ∃ o d, ops[p.i]? = some o ∧ operN P n ops o = some d ∧ p.d = o.dst ∧ d.guard = none ∧ freeW ops listed p.i = true ∧ pend P n ops listed p.i = true ∧
   ((lateO o = true ∧ ∃ ob, LateR D d.op p.rv ob p.B ∧ w.heap[p.B]? = some ob ∧ p.B < w.heap.size ∧ w0.heap.size ≤ p.B ∧ (∀ b x, e b = some x → x.blk ≠ p.B) ∧ (∀ p' ∈ E, isLate P n ops p'.i = true → p'.B = p.B → p'.i = p.i) ∧ ((∃ T, o.op = .alloc T) → p.rv = .pointer (some ⟨p.B, 0, none⟩))) ∨
    (∃ s q off, FaOk P n ops o s q ∧ d.op = .fieldAddr off (.t s) ∧ p.rv = .pointer (some ⟨p.B, off, none⟩) ∧ (listed.getD q false = true → a.tmps.getD s undef = .pointer (some ⟨p.B, 0, none⟩)) ∧ (listed.getD q false = false → ∃ p' ∈ E, p'.i = q ∧ p'.rv = .pointer (some ⟨p.B, 0, none⟩))))
end
end Go.Dx
