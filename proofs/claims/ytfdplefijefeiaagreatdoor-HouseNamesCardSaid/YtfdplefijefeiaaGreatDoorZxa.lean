/- D: REGIONS THAT DRAW ARE SOUND. -/
import Derived.Test.YtfdplefijefeiaaGreatDoorZz
namespace Go.Dx
open Go
section
variable {P : Program} {D : DProg} {ops : Array Oper} {Q : Exit → Act → World → Prop} {n : Nat} {w0 : World}

theorem isLate_of {i : Nat} {o : Oper} {d : DOper} (ho : ops[i]? = some o) (hd : operN P n ops o = some d) (hg : d.guard = none) (hl : lateO o = true) : isLate P n ops i = true := by
  unfold isLate; rw [ho]; simp only [hd, hl, hg]; rfl

/-- nothing turns for it where an operation that is no new object comes up in its turn, and writes its own slot -/
theorem PdOk.turn {e : Env} {w : World} {listed : Array Bool} {a : Act} {E E' : List Pd} {p : Pd} (h : PdOk P D n ops w0 e w listed a E p) {i : Nat} {oi : Oper} (hi : ops[i]? = some oi) (hnl : isLate P n ops i = false) (hnd : nd ops.toList = true)
    (hE : ∀ q ∈ E, q.i ≠ i → q ∈ E') (hE' : ∀ q ∈ E', q ∈ E) (v : Value) : PdOk P D n ops w0 e w (listed.setIfInBounds i true) (a.put oi.dst v) E' p := by
  obtain ⟨o, d, h1, h2, h3, h4, h5, h6, h7⟩ := h
  refine ⟨o, d, h1, h2, h3, h4, freeW_set h5, pend_set h6, ?_⟩
  rcases h7 with ⟨hl, ob, k1, k2, k3, k4, k5, k6, k7⟩ | ⟨s, q, off, hfa, k1, k2, k3, k4⟩
  · exact .inl ⟨hl, ob, k1, k2, k3, k4, k5, fun p' hp' => k6 p' (hE' p' hp'), k7⟩
  · have hfa' := hfa
    obtain ⟨_, _, hql, oq, Tq, hoq, hopq, hdq⟩ := hfa
    have hqi : i ≠ q := fun e => by rw [e, hql] at hnl; cases hnl
    refine .inr ⟨s, q, off, hfa', k1, k2, fun hq => ?_, fun hq => ?_⟩
    · rw [getD_set_ne false hqi] at hq
      rw [put_get_ne _ _ (fun e => nd_ne hnd hi hoq hqi s e hdq)]
      exact k3 hq
    · rw [getD_set_ne false hqi] at hq
      obtain ⟨p', hp', hpi, hpr⟩ := k4 hq
      exact ⟨p', hE p' hp' (by rw [hpi]; exact fun e => hqi e.symm), hpi, hpr⟩
/-- nor where one that may come up ahead of its turn does so -/
theorem PdOk.more {e : Env} {w w' : World} {listed : Array Bool} {a : Act} {E : List Pd} {p p1 : Pd} (h : PdOk P D n ops w0 e w listed a E p) (hs : w.heap.size ≤ w'.heap.size) (hb : ∀ B, B < w.heap.size → w'.heap[B]? = w.heap[B]?)
    (hp1 : isLate P n ops p1.i = true → w.heap.size ≤ p1.B) : PdOk P D n ops w0 e w' listed a (p1 :: E) p := by
  obtain ⟨o, d, h1, h2, h3, h4, h5, h6, h7⟩ := h
  refine ⟨o, d, h1, h2, h3, h4, h5, h6, ?_⟩
  rcases h7 with ⟨hl, ob, k1, k2, k3, k4, k5, k6, k7⟩ | ⟨s, q, off, hfa, k1, k2, k3, k4⟩
  · refine .inl ⟨hl, ob, k1, (hb _ k3).trans k2, Nat.lt_of_lt_of_le k3 hs, k4, k5, fun p' hp' hpl hpB => ?_, k7⟩
    rcases List.mem_cons.1 hp' with rfl | hp'
    · have := hp1 hpl
      omega
    · exact k6 p' hp' hpl hpB
  · exact .inr ⟨s, q, off, hfa, k1, k2, k3, fun hq => let ⟨p', hp', x⟩ := k4 hq; ⟨p', List.mem_cons_of_mem _ hp', x⟩⟩

theorem edges_all {o : Oper} {q : Nat} (h : edgesOn o q = true) : ∀ e ∈ o.after, Region.binds .any e = true → e.on = q := fun e he hb => by
  simp only [edgesOn, Bool.and_eq_true] at h
  have := Array.all_eq_true_iff_forall_mem.1 h.2 e he
  simp only [Bool.or_eq_true, hb, Bool.not_true, Bool.false_eq_true, false_or, beq_iff_eq] at this
  exact this
theorem edges_any {o : Oper} {q : Nat} (h : edgesOn o q = true) : ∃ e ∈ o.after, Region.binds .any e = true ∧ e.on = q := by
  simp only [edgesOn, Bool.and_eq_true] at h
  obtain ⟨e, he, hb⟩ := Array.any_eq_true'.1 h.1
  simp only [Bool.and_eq_true, beq_iff_eq] at hb
  exact ⟨e, he, hb⟩
/-- an address whose object has come up may be taken -/
theorem fa_takeable {listed : Array Bool} {m : Nat} {o : Oper} {d : DOper} {s q : Nat} (ho : ops[m]? = some o) (hd : operN P n ops o = some d) (hf : freeW ops listed m = true) (hfa : FaOk P n ops o s q) (hun : listed.getD m true = false) (hq : listed.getD q false = true) :
    m ∈ Region.ready .any ops listed ∧ takeable P n ops listed m = true := by
  obtain ⟨⟨T, f, hop⟩, hed, hql, hrest⟩ := hfa
  have hall := edges_all hed
  refine ⟨mem_ready.2 ⟨hun, o, ho, fun e he hb => by rw [hall e he hb]; exact hq⟩, ?_⟩
  obtain ⟨off, hdo, _⟩ := fa_ok hop (operN_parts hd).2.2.1
  unfold takeable
  rw [ho]
  simp only [Option.bind_some, hd, hdo, pureD, Bool.true_or, Bool.true_and]
  unfold Region.free
  unfold freeW at hf
  rw [ho] at hf ⊢
  simp only [List.all_eq_true] at hf ⊢
  intro j hj
  have h1 := hf j hj
  simp only [Bool.or_eq_true] at h1 ⊢
  rcases h1 with (h1 | h1) | h1
  · exact .inl (.inl h1)
  · exact .inl (.inr h1)
  · cases hoj : ops[j]? with
    | none => exact .inr rfl
    | some oj =>
      rw [hoj] at h1
      simp only [Bool.or_eq_true] at h1
      rcases h1 with (h1 | h1) | h1
      · exact .inr (by simp only [Bool.or_eq_true]; exact .inl h1)
      · obtain ⟨e, he, hb⟩ := Array.any_eq_true'.1 h1
        simp only [Bool.and_eq_true, beq_iff_eq] at hb
        have := hall e he hb.1
        rw [hb.2] at this
        subst this
        have hlt : j < listed.size := by
          rcases Nat.lt_or_ge j listed.size with h | h
          · exact h
          · simp [h] at hq
        exact .inl (.inr (by rw [getD_both hlt]; exact hq))
      · exact .inr (by simp only [Bool.or_eq_true]; exact .inr h1)

/-- what is to be shown of a state of a region that draws -/
def Claim (P : Program) (D : DProg) (call : Caller) (n : Nat) (ops : Array Oper) (Q : Exit → Act → World → Prop) (e0 : Env) (h0 : DHeap) (w0 : World) (d0 : List Deferred) (t' : Fr) (h' : DHeap) (F k : Nat) : Prop :=
  ∀ (listed : Array Bool) (dl : List (DOper × SK)), schedC P n ops k listed = some dl → listed.size = ops.size → Closed .any ops listed →
    ∀ (held : HeldL) (e : Env) (t : Fr) (a : Act) (h : DHeap) (w : World) (E : List Pd), cnt ops (lists listed E) ≤ F → Glob P e → FrR e t a.tmps → n ≤ a.tmps.size → a.defers = d0 → Step e0 h0 w0 e h w → Held D h held → HeldInv P n ops held →
      EOk ops listed E → (∀ p ∈ E, PdOk P D n ops w0 e w listed a E p) → drawD D call dl held t h = some (t', h') → wpAnyS P .any ops Q (SHeld D e held) F (lists listed E) (puts a E) w

variable {call : Caller} {e0 : Env} {h0 : DHeap} {d0 : List Deferred} {t' : Fr} {h' : DHeap}

/-- one that may come up ahead of its turn does so -/
theorem pend_step {F k : Nat} (ih : Claim P D call n ops Q e0 h0 w0 d0 t' h' F k) {listed : Array Bool} {dl : List (DOper × SK)} (hc : schedC P n ops k listed = some dl) (hs : listed.size = ops.size) (hcl : Closed .any ops listed)
    (hnd : nd ops.toList = true) (htk : ∀ m ∈ Region.ready .any ops listed, takeable P n ops listed m = false)
    {held : HeldL} {e : Env} {t : Fr} {a : Act} {h : DHeap} {w : World} {E : List Pd} (hcnt : cnt ops (lists listed E) ≤ F + 1) (hg : Glob P e) (hf : FrR e t a.tmps) (hn : n ≤ a.tmps.size) (hd0 : a.defers = d0) (st : Step e0 h0 w0 e h w) (hh : Held D h held) (hhi : HeldInv P n ops held)
    (hE : EOk ops listed E) (hP : ∀ p ∈ E, PdOk P D n ops w0 e w listed a E p) (hr : drawD D call dl held t h = some (t', h')) {m : Nat} (hm : m ∈ Region.ready .any ops (lists listed E)) (hpm : pend P n ops listed m = true) :
    wpOp P ops Q m (fun a' w' => SHeld D e held ((lists listed E).setIfInBounds m true) w' ∧ wpAnyS P .any ops Q (SHeld D e held) F ((lists listed E).setIfInBounds m true) a' w') (puts a E) w := by
  obtain ⟨o, d, ho, hd, hgd, hfw, hlo⟩ := pend_parts hpm
  obtain ⟨hdst, hdd, hop, _⟩ := operN_parts hd
  have hgo := operN_guard hd hgd
  have hcnt' : cnt ops ((lists listed E).setIfInBounds m true) ≤ F := by have := cnt_set hm; omega
  have hun := (lists_false (mem_ready.1 hm).1).1
  have hne := (lists_false (mem_ready.1 hm).1).2
  unfold wpOp
  simp only [ho]
  rw [if_pos (wanted_none hgo _)]
  refine .inl ?_
  unfold Oper.wp
  by_cases hl : lateO o = true
  · obtain ⟨rv, ob, hrun, hR, hal⟩ := late_ok D hl hop w
    rw [hrun]
    have hsz : (w.alloc ob).heap.size = w.heap.size + 1 := by simp
    have hold : ∀ B, B < w.heap.size → (w.alloc ob).heap[B]? = w.heap[B]? := fun B hB => alloc_old w ob hB
    have st1 : Step e0 h0 w0 e h (w.alloc ob) := st.trans (Step.grow st.rep (by omega) rfl rfl rfl hold)
    refine And.intro ⟨e, h, Env.le.refl e, st1.rep, fun x hx _ => hh x hx⟩ ?_
    have hEm : EOk ops listed (⟨m, o.dst, rv, w.heap.size⟩ :: E) := ⟨hm, hE⟩
    refine ih listed dl hc hs hcl held e t a h _ (⟨m, o.dst, rv, w.heap.size⟩ :: E) hcnt' hg hf hn hd0 st1 hh hhi hEm (fun p hp => ?_) hr
    rcases List.mem_cons.1 hp with rfl | hp
    · refine ⟨o, d, ho, hd, rfl, hgd, hfw, hpm, .inl ⟨hl, ob, hR, alloc_last w ob, by show w.heap.size < _; omega, st.size, fun b x hx => ?_, fun p' hp' hpl hpB => ?_, hal⟩⟩
      · have := st.rep.lt b x hx
        show x.blk ≠ w.heap.size
        omega
      · rcases List.mem_cons.1 hp' with rfl | hp'
        · rfl
        · obtain ⟨o', d', g1, g2, _, _, _, _, g7⟩ := hP p' hp'
          rcases g7 with ⟨_, ob', _, _, k3, _⟩ | ⟨s, q, off, hfa, _⟩
          · have hpB : p'.B = w.heap.size := hpB
            omega
          · obtain ⟨o2, d2, j1, j2, j3, j4⟩ := isLate_parts hpl
            rw [g1] at j1
            cases j1
            obtain ⟨⟨T, f, hofa⟩, _⟩ := hfa
            unfold lateO at j4
            rw [hofa] at j4
            cases j4
    · exact (hP p hp).more (by omega) hold fun _ => Nat.le_refl _
  · obtain ⟨s, q, hfa⟩ := hlo.resolve_left hl
    have hfa' := hfa
    obtain ⟨⟨T, f, hofa⟩, hed, hql, oq, Tq, hoq, hopq, hdq⟩ := hfa'
    obtain ⟨off, hdo, hrun⟩ := fa_ok hofa hop
    have hql' : listed.getD q false = false := by
      cases hq : listed.getD q false with
      | false => rfl
      | true =>
        obtain ⟨k1, k2⟩ := fa_takeable ho hd hfw hfa hun hq
        rw [htk m k1] at k2
        cases k2
    obtain ⟨ee, hee, heb, heq⟩ := edges_any hed
    obtain ⟨_, o', ho', hall⟩ := mem_ready.1 hm
    rw [ho] at ho'
    cases ho'
    have hqm := hall ee hee heb
    rw [heq] at hqm
    obtain ⟨pq, hpq, hpqi⟩ := (lists_true hqm).resolve_left fun x => by rw [hql'] at x; cases x
    obtain ⟨oq', dq', g1, g2, g3, g4, _, _, g7⟩ := hP pq hpq
    rw [hpqi, hoq] at g1
    cases g1
    have hlq : lateO oq = true := by unfold lateO; rw [hopq]
    have hrq : pq.rv = .pointer (some ⟨pq.B, 0, none⟩) := by
      rcases g7 with ⟨_, _, _, _, _, _, _, _, k7⟩ | ⟨_, _, _, hfa2, _⟩
      · exact k7 ⟨_, hopq⟩
      · obtain ⟨⟨T2, f2, h2⟩, _⟩ := hfa2
        rw [hopq] at h2
        cases h2
    have hss : s < a.tmps.size := Nat.lt_of_lt_of_le ((operN_parts g2).1 s hdq) hn
    have hget : (puts a E).tmps.getD s undef = pq.rv := by
      refine puts_get hss (g3.trans hdq) hpq fun r hr hrne hrd => ?_
      obtain ⟨orr, dr, r1, r2, r3, _⟩ := hP r hr
      have hri : r.i ≠ q := fun e' => by
        -- two with the same number
        obtain ⟨E1, E2, rfl⟩ := List.append_of_mem hpq
        have hrm : r ∈ E1 ++ E2 := by
          rcases List.mem_append.1 hr with hr | hr
          · exact List.mem_append.2 (.inl hr)
          · exact List.mem_append.2 (.inr ((List.mem_cons.1 hr).resolve_left hrne))
        exact EOk.mid_ne hE r hrm (by rw [e', hpqi])
      exact nd_ne hnd r1 hoq hri s (r3 ▸ hrd) hdq
    have hev : (puts a E).eval (.tmp s) = .pointer (some ⟨pq.B, 0, none⟩) := by
      rw [← hrq]; exact hget
    rw [hrun _ w pq.B 0 hev]
    refine And.intro ⟨e, h, Env.le.refl e, st.rep, fun x hx _ => hh x hx⟩ ?_
    have hEm : EOk ops listed (⟨m, o.dst, .pointer (some ⟨pq.B, 0 + off, none⟩), pq.B⟩ :: E) := ⟨hm, hE⟩
    refine ih listed dl hc hs hcl held e t a h _ (⟨m, o.dst, .pointer (some ⟨pq.B, 0 + off, none⟩), pq.B⟩ :: E) hcnt' hg hf hn hd0 st hh hhi hEm (fun p hp => ?_) hr
    rcases List.mem_cons.1 hp with rfl | hp
    · exact ⟨o, d, ho, hd, rfl, hgd, hfw, hpm, .inr ⟨s, q, off, hfa, hdo, by simp, fun x => (by rw [hql'] at x; cases x), fun _ => ⟨pq, List.mem_cons_of_mem _ hpq, hpqi, hrq⟩⟩⟩
    · refine (hP p hp).more (Nat.le_refl _) (fun _ _ => rfl) fun hpl => ?_
      obtain ⟨o2, d2, j1, j2, j3, j4⟩ := isLate_parts hpl
      rw [ho] at j1
      cases j1
      exact (hl j4).elim
end
end Go.Dx
