/- The evaluator, part 12. -/
import Derived.Test.YtfdplefijefeiaaGreatDoorZ11
/- D: REGIONS THAT DRAW ARE SOUND. -/
namespace Go.Dx
open Go
section
variable {P : Program} {D : DProg} {ops : Array Oper} {Q : Exit → Act → World → Prop} {n : Nat} {w0 : World}

theorem isLate_of {i : Nat} {o : Oper} {d : DOper} (ho : ops[i]? = some o) (hd : operN P n ops o = some d) (hg : d.guard = none) (hl : lateO o = true) : isLate P n ops i = true := by
  unfold isLate; rw [ho]; simp only [hd, hl, hg]; rfl

/-- nothing turns for it where an operation that is no new object comes up in its turn, and writes its own slot -/
theorem PdOk.turn {e : Env} {w : World} {listed : Array Bool} {a : Act} {E E' : List Pd} {p : Pd} (h : PdOk P D n ops w0 e w listed a E p) {i : Nat} {oi : Oper} (hi : ops[i]? = some oi) (hnl : isLate P n ops i = false) (hnd : nd ops.toList = true)
    (hE : ∀ q ∈ E, q.i ≠ i → q ∈ E') (hE' : ∀ q ∈ E', q ∈ E) (v : Value) : PdOk P D n ops w0 e w (listed.setIfInBounds i true) (a.put oi.dst v) E' p := by
  obtain ⟨o, d, h1, h2, h3, h4, h5, h6, h7⟩ := h
  refine ⟨o, d, h1, h2, h3, h4, freeW_set h5, pend_set h6, ?_⟩
  rcases h7 with ⟨hl, ob, k1, k2, k3, k4, k5, k6, k7⟩ | ⟨s, q, off, hfa, k1, k2, k3, k4⟩
  · exact .inl ⟨hl, ob, k1, k2, k3, k4, k5, fun p' hp' => k6 p' (hE' p' hp'), k7⟩
  · have hfa' := hfa
    obtain ⟨_, _, hql, oq, Tq, hoq, hopq, hdq⟩ := hfa
    have hqi : i ≠ q := fun e => by rw [e, hql] at hnl; cases hnl
    refine .inr ⟨s, q, off, hfa', k1, k2, fun hq => ?_, fun hq => ?_⟩
    · rw [getD_set_ne false hqi] at hq
      rw [put_get_ne _ _ (fun e => nd_ne hnd hi hoq hqi s e hdq)]
      exact k3 hq
    · rw [getD_set_ne false hqi] at hq
      obtain ⟨p', hp', hpi, hpr⟩ := k4 hq
      exact ⟨p', hE p' hp' (by rw [hpi]; exact fun e => hqi e.symm), hpi, hpr⟩
/-- nor where one that may come up ahead of its turn does so -/
theorem PdOk.more {e : Env} {w w' : World} {listed : Array Bool} {a : Act} {E : List Pd} {p p1 : Pd} (h : PdOk P D n ops w0 e w listed a E p) (hs : w.heap.size ≤ w'.heap.size) (hb : ∀ B, B < w.heap.size → w'.heap[B]? = w.heap[B]?)
    (hp1 : isLate P n ops p1.i = true → w.heap.size ≤ p1.B) : PdOk P D n ops w0 e w' listed a (p1 :: E) p := by
  obtain ⟨o, d, h1, h2, h3, h4, h5, h6, h7⟩ := h
  refine ⟨o, d, h1, h2, h3, h4, h5, h6, ?_⟩
  rcases h7 with ⟨hl, ob, k1, k2, k3, k4, k5, k6, k7⟩ | ⟨s, q, off, hfa, k1, k2, k3, k4⟩
  · refine .inl ⟨hl, ob, k1, (hb _ k3).trans k2, Nat.lt_of_lt_of_le k3 hs, k4, k5, fun p' hp' hpl hpB => ?_, k7⟩
    rcases List.mem_cons.1 hp' with rfl | hp'
    · have := hp1 hpl
      omega
    · exact k6 p' hp' hpl hpB
  · exact .inr ⟨s, q, off, hfa, k1, k2, k3, fun hq => let ⟨p', hp', x⟩ := k4 hq; ⟨p', List.mem_cons_of_mem _ hp', x⟩⟩

theorem edges_all {o : Oper} {q : Nat} (h : edgesOn o q = true) : ∀ e ∈ o.after, Region.binds .any e = true → e.on = q := fun e he hb => by
  simp only [edgesOn, Bool.and_eq_true] at h
  have := Array.all_eq_true_iff_forall_mem.1 h.2 e he
  simp only [Bool.or_eq_true, hb, Bool.not_true, Bool.false_eq_true, false_or, beq_iff_eq] at this
  exact this
theorem edges_any {o : Oper} {q : Nat} (h : edgesOn o q = true) : ∃ e ∈ o.after, Region.binds .any e = true ∧ e.on = q := by
  simp only [edgesOn, Bool.and_eq_true] at h
  obtain ⟨e, he, hb⟩ := Array.any_eq_true'.1 h.1
  simp only [Bool.and_eq_true, beq_iff_eq] at hb
  exact ⟨e, he, hb⟩
/-- an address whose object has come up may be taken -/
theorem fa_takeable {listed : Array Bool} {m : Nat} {o : Oper} {d : DOper} {s q : Nat} (ho : ops[m]? = some o) (hd : operN P n ops o = some d) (hf : freeW ops listed m = true) (hfa : FaOk P n ops o s q) (hun : listed.getD m true = false) (hq : listed.getD q false = true) :
    m ∈ Region.ready .any ops listed ∧ takeable P n ops listed m = true := by
  obtain ⟨⟨T, f, hop⟩, hed, hql, hrest⟩ := hfa
  have hall := edges_all hed
  refine ⟨mem_ready.2 ⟨hun, o, ho, fun e he hb => by rw [hall e he hb]; exact hq⟩, ?_⟩
  obtain ⟨off, hdo, _⟩ := fa_ok hop (operN_parts hd).2.2.1
  unfold takeable
  rw [ho]
  simp only [Option.bind_some, hd, hdo, pureD, Bool.true_or, Bool.true_and]
  unfold Region.free
  unfold freeW at hf
  rw [ho] at hf ⊢
  simp only [List.all_eq_true] at hf ⊢
  intro j hj
  have h1 := hf j hj
  simp only [Bool.or_eq_true] at h1 ⊢
  rcases h1 with (h1 | h1) | h1
  · exact .inl (.inl h1)
  · exact .inl (.inr h1)
  · cases hoj : ops[j]? with
    | none => exact .inr rfl
    | some oj =>
      rw [hoj] at h1
      simp only [Bool.or_eq_true] at h1
      rcases h1 with (h1 | h1) | h1
      · exact .inr (by simp only [Bool.or_eq_true]; exact .inl h1)
      · obtain ⟨e, he, hb⟩ := Array.any_eq_true'.1 h1
        simp only [Bool.and_eq_true, beq_iff_eq] at hb
        have := hall e he hb.1
        rw [hb.2] at this
        subst this
        have hlt : j < listed.size := by
          rcases Nat.lt_or_ge j listed.size with h | h
          · exact h
          · simp [h] at hq
        exact .inl (.inr (by rw [getD_both hlt]; exact hq))
      · exact .inr (by simp only [Bool.or_eq_true]; exact .inr h1)

/-- what is to be shown of a state of a region that draws -/
def Claim (P : Program) (D : DProg) (call : Caller) (n : Nat) (ops : Array Oper) (Q : Exit → Act → World → Prop) (e0 : Env) (h0 : DHeap) (w0 : World) (d0 : List Deferred) (t' : Fr) (h' : DHeap) (F k : Nat) : Prop :=
  ∀ (listed : Array Bool) (dl : List (DOper × SK)), schedC P n ops k listed = some dl → listed.size = ops.size → Closed .any ops listed →
    ∀ (held : HeldL) (e : Env) (t : Fr) (a : Act) (h : DHeap) (w : World) (E : List Pd), cnt ops (lists listed E) ≤ F → Glob P e → FrR e t a.tmps → n ≤ a.tmps.size → a.defers = d0 → Step e0 h0 w0 e h w → Held D h held → HeldInv P n ops held →
      EOk ops listed E → (∀ p ∈ E, PdOk P D n ops w0 e w listed a E p) → drawD D call dl held t h = some (t', h') → wpAnyS P .any ops Q (SHeld D e held) F (lists listed E) (puts a E) w

variable {call : Caller} {e0 : Env} {h0 : DHeap} {d0 : List Deferred} {t' : Fr} {h' : DHeap}

/-- one that may come up ahead of its turn does so -/
theorem pend_step {F k : Nat} (ih : Claim P D call n ops Q e0 h0 w0 d0 t' h' F k) {listed : Array Bool} {dl : List (DOper × SK)} (hc : schedC P n ops k listed = some dl) (hs : listed.size = ops.size) (hcl : Closed .any ops listed)
    (hnd : nd ops.toList = true) (htk : ∀ m ∈ Region.ready .any ops listed, takeable P n ops listed m = false)
    {held : HeldL} {e : Env} {t : Fr} {a : Act} {h : DHeap} {w : World} {E : List Pd} (hcnt : cnt ops (lists listed E) ≤ F + 1) (hg : Glob P e) (hf : FrR e t a.tmps) (hn : n ≤ a.tmps.size) (hd0 : a.defers = d0) (st : Step e0 h0 w0 e h w) (hh : Held D h held) (hhi : HeldInv P n ops held)
    (hE : EOk ops listed E) (hP : ∀ p ∈ E, PdOk P D n ops w0 e w listed a E p) (hr : drawD D call dl held t h = some (t', h')) {m : Nat} (hm : m ∈ Region.ready .any ops (lists listed E)) (hpm : pend P n ops listed m = true) :
    wpOp P ops Q m (fun a' w' => SHeld D e held ((lists listed E).setIfInBounds m true) w' ∧ wpAnyS P .any ops Q (SHeld D e held) F ((lists listed E).setIfInBounds m true) a' w') (puts a E) w := by
  obtain ⟨o, d, ho, hd, hgd, hfw, hlo⟩ := pend_parts hpm
  obtain ⟨hdst, hdd, hop, _⟩ := operN_parts hd
  have hgo := operN_guard hd hgd
  have hcnt' : cnt ops ((lists listed E).setIfInBounds m true) ≤ F := by have := cnt_set hm; omega
  have hun := (lists_false (mem_ready.1 hm).1).1
  have hne := (lists_false (mem_ready.1 hm).1).2
  unfold wpOp
  simp only [ho]
  rw [if_pos (wanted_none hgo _)]
  refine .inl ?_
  unfold Oper.wp
  by_cases hl : lateO o = true
  · obtain ⟨rv, ob, hrun, hR, hal⟩ := late_ok D hl hop w
    rw [hrun]
    have hsz : (w.alloc ob).heap.size = w.heap.size + 1 := by simp
    have hold : ∀ B, B < w.heap.size → (w.alloc ob).heap[B]? = w.heap[B]? := fun B hB => alloc_old w ob hB
    have st1 : Step e0 h0 w0 e h (w.alloc ob) := st.trans (Step.grow st.rep (by omega) rfl rfl rfl hold)
    refine And.intro ⟨e, h, Env.le.refl e, st1.rep, fun x hx _ => hh x hx⟩ ?_
    have hEm : EOk ops listed (⟨m, o.dst, rv, w.heap.size⟩ :: E) := ⟨hm, hE⟩
    refine ih listed dl hc hs hcl held e t a h _ (⟨m, o.dst, rv, w.heap.size⟩ :: E) hcnt' hg hf hn hd0 st1 hh hhi hEm (fun p hp => ?_) hr
    rcases List.mem_cons.1 hp with rfl | hp
    · refine ⟨o, d, ho, hd, rfl, hgd, hfw, hpm, .inl ⟨hl, ob, hR, alloc_last w ob, by show w.heap.size < _; omega, st.size, fun b x hx => ?_, fun p' hp' hpl hpB => ?_, hal⟩⟩
      · have := st.rep.lt b x hx
        show x.blk ≠ w.heap.size
        omega
      · rcases List.mem_cons.1 hp' with rfl | hp'
        · rfl
        · obtain ⟨o', d', g1, g2, _, _, _, _, g7⟩ := hP p' hp'
          rcases g7 with ⟨_, ob', _, _, k3, _⟩ | ⟨s, q, off, hfa, _⟩
          · have hpB : p'.B = w.heap.size := hpB
            omega
          · obtain ⟨o2, d2, j1, j2, j3, j4⟩ := isLate_parts hpl
            rw [g1] at j1
            cases j1
            obtain ⟨⟨T, f, hofa⟩, _⟩ := hfa
            unfold lateO at j4
            rw [hofa] at j4
            cases j4
    · exact (hP p hp).more (by omega) hold fun _ => Nat.le_refl _
  · obtain ⟨s, q, hfa⟩ := hlo.resolve_left hl
    have hfa' := hfa
    obtain ⟨⟨T, f, hofa⟩, hed, hql, oq, Tq, hoq, hopq, hdq⟩ := hfa'
    obtain ⟨off, hdo, hrun⟩ := fa_ok hofa hop
    have hql' : listed.getD q false = false := by
      cases hq : listed.getD q false with
      | false => rfl
      | true =>
        obtain ⟨k1, k2⟩ := fa_takeable ho hd hfw hfa hun hq
        rw [htk m k1] at k2
        cases k2
    obtain ⟨ee, hee, heb, heq⟩ := edges_any hed
    obtain ⟨_, o', ho', hall⟩ := mem_ready.1 hm
    rw [ho] at ho'
    cases ho'
    have hqm := hall ee hee heb
    rw [heq] at hqm
    obtain ⟨pq, hpq, hpqi⟩ := (lists_true hqm).resolve_left fun x => by rw [hql'] at x; cases x
    obtain ⟨oq', dq', g1, g2, g3, g4, _, _, g7⟩ := hP pq hpq
    rw [hpqi, hoq] at g1
    cases g1
    have hlq : lateO oq = true := by unfold lateO; rw [hopq]
    have hrq : pq.rv = .pointer (some ⟨pq.B, 0, none⟩) := by
      rcases g7 with ⟨_, _, _, _, _, _, _, _, k7⟩ | ⟨_, _, _, hfa2, _⟩
      · exact k7 ⟨_, hopq⟩
      · obtain ⟨⟨T2, f2, h2⟩, _⟩ := hfa2
        rw [hopq] at h2
        cases h2
    have hss : s < a.tmps.size := Nat.lt_of_lt_of_le ((operN_parts g2).1 s hdq) hn
    have hget : (puts a E).tmps.getD s undef = pq.rv := by
      refine puts_get hss (g3.trans hdq) hpq fun r hr hrne hrd => ?_
      obtain ⟨orr, dr, r1, r2, r3, _⟩ := hP r hr
      have hri : r.i ≠ q := fun e' => by
        -- two with the same number
        obtain ⟨E1, E2, rfl⟩ := List.append_of_mem hpq
        have hrm : r ∈ E1 ++ E2 := by
          rcases List.mem_append.1 hr with hr | hr
          · exact List.mem_append.2 (.inl hr)
          · exact List.mem_append.2 (.inr ((List.mem_cons.1 hr).resolve_left hrne))
        exact EOk.mid_ne hE r hrm (by rw [e', hpqi])
      exact nd_ne hnd r1 hoq hri s (r3 ▸ hrd) hdq
    have hev : (puts a E).eval (.tmp s) = .pointer (some ⟨pq.B, 0, none⟩) := by
      rw [← hrq]; exact hget
    rw [hrun _ w pq.B 0 hev]
    refine And.intro ⟨e, h, Env.le.refl e, st.rep, fun x hx _ => hh x hx⟩ ?_
    have hEm : EOk ops listed (⟨m, o.dst, .pointer (some ⟨pq.B, 0 + off, none⟩), pq.B⟩ :: E) := ⟨hm, hE⟩
    refine ih listed dl hc hs hcl held e t a h _ (⟨m, o.dst, .pointer (some ⟨pq.B, 0 + off, none⟩), pq.B⟩ :: E) hcnt' hg hf hn hd0 st hh hhi hEm (fun p hp => ?_) hr
    rcases List.mem_cons.1 hp with rfl | hp
    · exact ⟨o, d, ho, hd, rfl, hgd, hfw, hpm, .inr ⟨s, q, off, hfa, hdo, by simp, fun x => (by rw [hql'] at x; cases x), fun _ => ⟨pq, List.mem_cons_of_mem _ hpq, hpqi, hrq⟩⟩⟩
    · refine (hP p hp).more (Nat.le_refl _) (fun _ _ => rfl) fun hpl => ?_
      obtain ⟨o2, d2, j1, j2, j3, j4⟩ := isLate_parts hpl
      rw [ho] at j1
      cases j1
      exact (hl j4).elim
end
end Go.Dx
/- D: REGIONS THAT DRAW ARE SOUND (the join). -/
namespace Go.Dx
open Go
section
variable {P : Program} {D : DProg} {ops : Array Oper} {Q : Exit → Act → World → Prop} {n : Nat} {w0 : World} {call : Caller} {e0 : Env} {h0 : DHeap} {d0 : List Deferred} {t' : Fr} {h' : DHeap}

theorem takeable_parts {listed : Array Bool} {i : Nat} (h : takeable P n ops listed i = true) : ∃ o d, ops[i]? = some o ∧ operN P n ops o = some d ∧ (pureD d.op = true ∨ readD d.op = true) ∧ Region.free .any ops listed i = true := by
  unfold takeable at h
  cases ho : ops[i]? with
  | none => rw [ho] at h; cases h
  | some o =>
    rw [ho] at h
    simp only [Option.bind_some] at h
    cases hd : operN P n ops o with
    | none => rw [hd] at h; cases h
    | some d =>
      rw [hd] at h
      simp only [Bool.and_eq_true, Bool.or_eq_true] at h
      exact ⟨o, d, rfl, hd, h.1, h.2⟩
theorem takeable_notLate {listed : Array Bool} {i : Nat} (h : takeable P n ops listed i = true) : isLate P n ops i = false := by
  obtain ⟨o, d, ho, hd, hpr, _⟩ := takeable_parts h
  cases hl : isLate P n ops i with
  | false => rfl
  | true =>
    obtain ⟨o', d', ho', hd', _, hlo⟩ := isLate_parts hl
    rw [ho] at ho'
    cases ho'
    obtain ⟨h1, h2⟩ := late_quiet hlo (operN_parts hd).2.2.1
    rcases hpr with h3 | h3
    · rw [h1] at h3; cases h3
    · rw [h2] at h3; cases h3
theorem takeable_notLoud {listed : Array Bool} {i : Nat} (h : takeable P n ops listed i = true) : loud P n ops i = false := by
  obtain ⟨o, d, ho, hd, hpr, _⟩ := takeable_parts h
  unfold loud
  rw [ho]
  simp only [hd]
  rcases hpr with h3 | h3 <;> simp [h3]

def heldK (o : DOp) (t : Fr) (v : DV) (held : HeldL) : SK → HeldL
  | .read ds => (o, t, v, ds) :: held
  | _ => held
/-- an operation of D that reads or computes, taken in its turn -/
theorem quiet_run {os : List (DOper × SK)} {d : DOper} {k : SK} {held : HeldL} {t : Fr} {h : DHeap} (hk : k = .pure ∨ ∃ ds, k = .read ds) (hr : drawD D call ((d, k) :: os) held t h = some (t', h')) :
    (if wantedD d.guard t then
      match opD D t h d.op with
      | some (.same v) => drawD D call os (heldK d.op t v held k) (Fr.put t d.dst v) h
      | _ => none
    else drawD D call os held (Fr.put t d.dst undefD) h) = some (t', h') := by
  rcases hk with rfl | ⟨ds, rfl⟩
  · exact hr
  · exact hr

theorem draw_all (hD : DOk P D) (hcall : CallOk P call) (hsel : Region.noSelect ops = true) (hnd : nd ops.toList = true) (hQ : ∀ c a w, ¬ Q (.panic c) a w)
    (hK : ∀ e' a' w', Step e0 h0 w0 e' h' w' → FrR e' t' a'.tmps → n ≤ a'.tmps.size → a'.defers = d0 → Q .normal a' w') : ∀ N F k, F + k < N → Claim P D call n ops Q e0 h0 w0 d0 t' h' F k := by
  intro N
  induction N with
  | zero => intro F k h; omega
  | succ N ihN =>
  intro F k hFk listed dl hc hs hcl held e t a h w E hcnt hg hf hn hd0 st hh hhi hE hP hr
  have fin : Region.ready .any ops listed = [] → dl = [] → wpAnyS P .any ops Q (SHeld D e held) F (lists listed E) (puts a E) w := fun hrd hdl => by
    subst hdl
    simp only [drawD, Option.some.injEq, Prod.mk.injEq] at hr
    obtain ⟨rfl, rfl⟩ := hr
    have hE0 := EOk.nil hrd hE
    subst hE0
    exact wpAnyS_done hrd (hK e a w st hf hn hd0) F
  cases k with
  | zero =>
    simp only [schedC] at hc
    split at hc
    · next hrd => cases hc; exact fin hrd rfl
    · cases hc
  | succ k =>
  have hc0 := hc
  simp only [schedC] at hc
  split at hc
  · next hrd => cases hc; exact fin hrd rfl
  · next r0 rs0 hrd =>
    have hput : ∀ (o : Oper) v, n ≤ (a.put o.dst v).tmps.size := fun o v => by cases o.dst <;> simp [Act.put, hn]
    have hdef : ∀ (o : Oper) v, (a.put o.dst v).defers = d0 := fun o v => by rw [← hd0]; cases o.dst <;> rfl
    split at hc
    · next i hfind =>
      -- taken in its turn
      obtain ⟨d, hd, hc⟩ := bind_some hc
      obtain ⟨l, hl, rfl⟩ := Option.map_eq_some_iff.mp hc
      obtain ⟨o, ho, hdo⟩ := bind_some hd
      have hmem := List.mem_of_find?_eq_some hfind
      have htk := List.find?_some hfind
      obtain ⟨o', d', ho', hd', hpr, hfree⟩ := takeable_parts htk
      rw [ho] at ho'
      cases ho'
      rw [hdo] at hd'
      cases hd'
      have hnl := takeable_notLate htk
      obtain ⟨hdst, hdd, hop, hgu⟩ := operN_parts hdo
      have hri : i ∈ Region.ready .any ops listed := by rw [hrd]; exact hmem
      have hdst' : ∀ k, o.dst = some k → k < a.tmps.size := fun k hk => Nat.lt_of_lt_of_le (hdst k hk) hn
      have hwt := wanted_ok hf hgu
      have hcl1 := hcl.set hri
      have hs1 : (listed.setIfInBounds i true).size = ops.size := by simp [hs]
      have hkind : (kindOfD P n ops i d.op = .pure ∧ pureD d.op = true) ∨ (kindOfD P n ops i d.op = .read ((waitL ops i).filter (loud P n ops)) ∧ pureD d.op = false) := by
        unfold kindOfD
        cases hp : pureD d.op with
        | true => exact .inl ⟨rfl, rfl⟩
        | false => exact .inr ⟨rfl, rfl⟩
      have hr' := quiet_run (hkind.imp (fun x => x.1) fun x => ⟨_, x.1⟩) hr
      by_cases hiE : ∃ p ∈ E, p.i = i
      · -- it came up ahead of its turn
        obtain ⟨p, hpE, rfl⟩ := hiE
        obtain ⟨o2, d2, g1, g2, g3, g4, g5, g6, g7⟩ := hP p hpE
        rw [ho] at g1
        cases g1
        rw [hdo] at g2
        cases g2
        rcases g7 with ⟨hlo, _⟩ | ⟨s, q, off, hfa, k1, k2, k3, k4⟩
        · rw [isLate_of ho hdo g4 hlo] at hnl; cases hnl
        · have hql : listed.getD q false = true := by
            obtain ⟨_, o2, ho2, hall⟩ := mem_ready.1 hri
            rw [ho] at ho2
            cases ho2
            obtain ⟨ee, hee, heb, heq⟩ := edges_any hfa.2.1
            have := hall ee hee heb
            rwa [heq] at this
          have hts := k3 hql
          obtain ⟨⟨T, f, hofa⟩, _⟩ := hfa
          obtain ⟨off', hdo', hrun⟩ := fa_ok hofa hop
          rw [k1] at hdo'
          cases hdo'
          have hp : kindOfD P n ops p.i d.op = .pure := by unfold kindOfD; rw [k1]; rfl
          rw [hp] at hr'
          rw [show wantedD d.guard t = true by rw [g4]; rfl, if_pos rfl] at hr'
          split at hr'
          · next v hx =>
            obtain ⟨rv, hrv, hval⟩ := op_sound hD hg hf st.rep hop hx
            rw [hrun a.eval w p.B 0 hts, Nat.zero_add] at hrv
            have hrv' : rv = p.rv := by
              rw [k2]
              cases hrv
              rfl
            rw [hrv'] at hval
            obtain ⟨E1, E2, rfl⟩ := List.append_of_mem hpE
            have hneq := EOk.mid_ne hE
            have hdne : ∀ q' ∈ E1 ++ E2, ∀ x, p.d = some x → q'.d ≠ some x := fun q' hq' x hx' => by
              obtain ⟨o3, d3, j1, j2, j3, _⟩ := hP q' (by
                rcases List.mem_append.1 hq' with hq' | hq'
                · exact List.mem_append.2 (.inl hq')
                · exact List.mem_append.2 (.inr (List.mem_cons_of_mem _ hq')))
              rw [j3]
              exact nd_ne hnd ho j1 (fun e' => hneq q' hq' e'.symm) x (g3 ▸ hx')
            have heL := lists_remove listed p E2 E1
            have heP := puts_remove a p E2 (fun q' hq' => hdne q' (List.mem_append.2 (.inr hq'))) E1
            rw [← heL, ← heP, g3]
            have hfp : FrR e (Fr.put t d.dst v) (a.put o.dst p.rv).tmps := by rw [hdd]; exact hf.put (Env.le.refl e) hval hdst'
            refine ihN F k (by omega) _ l hl hs1 hcl1 held e _ _ h w (E1 ++ E2) (by rw [heL]; exact hcnt) hg hfp (hput o _) (hdef o _) st hh hhi (EOk.remove hE) (fun p' hp' => ?_) hr'
            have hp'E : p' ∈ E1 ++ p :: E2 := by
              rcases List.mem_append.1 hp' with hp' | hp'
              · exact List.mem_append.2 (.inl hp')
              · exact List.mem_append.2 (.inr (List.mem_cons_of_mem _ hp'))
            refine (hP p' hp'E).turn ho hnl hnd (fun q' hq' hne => ?_) (fun q' hq' => ?_) p.rv
            · rcases List.mem_append.1 hq' with hq' | hq'
              · exact List.mem_append.2 (.inl hq')
              · exact List.mem_append.2 (.inr ((List.mem_cons.1 hq').resolve_left fun e' => hne (by rw [e'])))
            · rcases List.mem_append.1 hq' with hq' | hq'
              · exact List.mem_append.2 (.inl hq')
              · exact List.mem_append.2 (.inr (List.mem_cons_of_mem _ hq'))
          · cases hr'
      · -- it comes up in its turn
        have hiE' : ∀ p ∈ E, p.i ≠ i := fun p hp e' => hiE ⟨p, hp, e'⟩
        have hri' := ready_lists hri hiE'
        obtain ⟨F', rfl⟩ : ∃ F', F = F' + 1 := ⟨F - 1, by have := cnt_pos hri'; omega⟩
        have hap : ∀ p ∈ E, (∀ x, p.d = some x → x ∉ o.looksAt ops) ∧ ∀ x, o.dst = some x → p.d ≠ some x := fun p hp => by
          obtain ⟨o2, d2, g1, g2, g3, g4, g5, g6, g7⟩ := hP p hp
          have hpw := EOk.waits hcl hE hs hp g1
          have hun := (lists_false (mem_ready.1 hri').1).1
          have hlt : i < (lists listed E).size := by rw [lists_size, hs]; exact (Array.getElem?_eq_some_iff.1 ho).1
          have h1 := Region.free_spec ho hfree p.i o2 g1 (hiE' p hp) (EOk.unl hE p hp) (fun ee hee heb heq => by
            have := hpw ee hee heb
            rw [heq] at this
            have h2 := (mem_ready.1 hri').1
            rw [getD_both hlt, this] at h2
            cases h2)
          obtain ⟨h2, h3, h4⟩ := Oper.apart_spec h1
          exact ⟨fun x hx => h4 x (g3 ▸ hx), fun x hx => by rw [g3]; exact h3 x hx⟩
        have hpp : ∀ v, puts (a.put o.dst v) E = (puts a E).put o.dst v := fun v => puts_put a o.dst v E fun p hp => (hap p hp).2
        have hsel' := Region.noSelect_spec hsel
        have hx0 : execOp (puts a E).eval o = execOp a.eval o := execOp_puts (ops := ops) o (fun cs b => hsel' i o cs b ho) a fun p hp => (hap p hp).1
        have hw0 : Region.wanted o (yielded ops (puts a E).tmps) = Region.wanted o (yielded ops a.tmps) := wanted_puts o a fun p hp => (hap p hp).1
        have hcnt' : cnt ops (lists (listed.setIfInBounds i true) E) ≤ F' := by
          rw [lists_set]
          have := cnt_set hri'
          omega
        have hE1 := EOk.set hE hiE'
        have hSi : ∀ (held2 : HeldL), HeldInv P n ops held2 → ∀ L w, SHeld D e held2 (L.setIfInBounds i true) w ↔ SHeld D e held2 L w := fun held2 hi2 L w => by
          have hj : ∀ x ∈ held2, ∀ j ∈ x.2.2.2, (L.setIfInBounds i true).getD j false = L.getD j false := fun x hx j hj => by
            have := hi2 x hx j hj
            refine getD_set_ne false fun e' => ?_
            rw [← e', takeable_notLoud htk] at this
            cases this
          constructor
          · rintro ⟨e2, h2, k1, k2, k3⟩
            exact ⟨e2, h2, k1, k2, fun x hx hj' => k3 x hx fun j hjx => (hj x hx j hjx).trans (hj' j hjx)⟩
          · rintro ⟨e2, h2, k1, k2, k3⟩
            exact ⟨e2, h2, k1, k2, fun x hx hj' => k3 x hx fun j hjx => (hj x hx j hjx).symm.trans (hj' j hjx)⟩
        have hSw : ∀ held2, Held D h held2 → SHeld D e held2 (lists listed E) w := fun held2 hh2 => ⟨e, h, Env.le.refl e, st.rep, fun x hx _ => hh2 x hx⟩
        have hfree' : ∀ j oj, ops[j]? = some oj → j ≠ i → (lists listed E).getD j true = false → (∀ ee ∈ oj.after, Region.binds .any ee = true → ee.on ≠ i) → o.apart ops oj = true :=
          fun j oj hj hji hun hno => Region.free_spec ho hfree j oj hj hji (lists_false hun).1 hno
        have hQ' : ∀ (v : Value) c a w, Q (.panic c) (a.put o.dst v) w → Q (.panic c) a w := fun v c a w hc => (hQ _ _ _ hc).elim
        have hPn : ∀ v, ∀ p ∈ E, PdOk P D n ops w0 e w (listed.setIfInBounds i true) (a.put o.dst v) E p := fun v p hp => (hP p hp).turn ho hnl hnd (fun q hq _ => hq) (fun q hq => hq) v
        split at hr'
        · next hw =>
          split at hr'
          · next v hx =>
            obtain ⟨rv, hrv, hval⟩ := op_sound hD hg hf st.rep hop hx
            have hfp : FrR e (Fr.put t d.dst v) (a.put o.dst rv).tmps := by rw [hdd]; exact hf.put (Env.le.refl e) hval hdst'
            have hyield : ∀ (held2 : HeldL), (pureD d.op = true ∨ (d.op, t, v, (waitL ops i).filter (loud P n ops)) ∈ held2) → YieldsIf P ops (fun w => ∃ L, Closed .any ops L ∧ L.getD i true = false ∧ SHeld D e held2 L w) o rv (puts a E) := fun held2 hor => by
              refine .inl ⟨hw0.trans (hwt.trans hw), fun w2 ⟨L, hLc, hLi, e2, h2, k1, k2, k3⟩ => ?_⟩
              have hx2 : opD D t h2 d.op = some (.same v) := by
                rcases hor with hp | hm
                · rw [pure_const (h2 := h) hp]; exact hx
                · refine k3 _ hm fun j hj => ?_
                  cases hjl : L.getD j false with
                  | false => rfl
                  | true =>
                    have := waitL_ok hLc i j (List.mem_filter.1 hj).1 hjl
                    rcases Nat.lt_or_ge i L.size with hlt | hge
                    · rw [getD_both hlt, this] at hLi; cases hLi
                    · simp [hge] at hLi
              obtain ⟨rv2, hrv2, hval2⟩ := op_sound hD (hg.le k1) (hf.le k1) k2 hop hx2
              have := val_mono k1 _ _ hval
              rw [this] at hval2
              cases hval2
              rw [hx0]
              exact hrv2
            rcases hkind with ⟨hk, hp⟩ | ⟨hk, hp⟩
            · rw [hk] at hr'
              refine wpAnyS_first ho hsel' (hQ' rv) (hSi held hhi) F' _ _ w hfree' (hE.closed hcl) hri' (hyield held (.inl hp)) (hSw held hh) ?_
              rw [← lists_set, ← hpp]
              exact ihN F' k (by omega) _ l hl hs1 hcl1 held e _ _ h w E hcnt' hg hfp (hput o _) (hdef o _) st hh hhi hE1 (hPn rv) hr'
            · rw [hk] at hr'
              have hh1 : Held D h ((d.op, t, v, (waitL ops i).filter (loud P n ops)) :: held) := fun x hx' => by
                cases hx' with
                | head => exact hx
                | tail _ hx' => exact hh x hx'
              have hhi1 : HeldInv P n ops ((d.op, t, v, (waitL ops i).filter (loud P n ops)) :: held) := fun x hx' => by
                cases hx' with
                | head => exact fun j hj => (List.mem_filter.1 hj).2
                | tail _ hx' => exact hhi x hx'
              refine wpAnyS_weaken (S := SHeld D e ((d.op, t, v, (waitL ops i).filter (loud P n ops)) :: held)) (fun L w2 _ ⟨e2, h2, k1, k2, k3⟩ => ⟨e2, h2, k1, k2, fun x hx' => k3 x (List.mem_cons_of_mem _ hx')⟩) ?_
              refine wpAnyS_first ho hsel' (hQ' rv) (hSi _ hhi1) F' _ _ w hfree' (hE.closed hcl) hri' (hyield _ (.inr (List.mem_cons_self ..))) (hSw _ hh1) ?_
              rw [← lists_set, ← hpp]
              exact ihN F' k (by omega) _ l hl hs1 hcl1 _ e _ _ h w E hcnt' hg hfp (hput o _) (hdef o _) st hh1 hhi1 hE1 (hPn rv) hr'
          · cases hr'
        · next hw =>
          have hfp : FrR e (Fr.put t d.dst undefD) (a.put o.dst undef).tmps := by rw [hdd]; exact hf.put (Env.le.refl e) (undef_val _) hdst'
          refine wpAnyS_first ho hsel' (hQ' undef) (hSi held hhi) F' _ _ w hfree' (hE.closed hcl) hri' (.inr ⟨by rw [hw0, hwt]; simpa using hw, rfl⟩) (hSw held hh) ?_
          rw [← lists_set, ← hpp]
          exact ihN F' k (by omega) _ l hl hs1 hcl1 held e _ _ h w E hcnt' hg hfp (hput o _) (hdef o _) st hh hhi hE1 (hPn undef) hr'
    · next hnone =>
      have htk : ∀ m ∈ Region.ready .any ops listed, takeable P n ops listed m = false := fun m hm => by
        rw [hrd] at hm
        simpa using List.find?_eq_none.1 hnone m hm
      split at hc
      · next q hfind =>
        -- alone
        obtain ⟨d, hd, hc⟩ := bind_some hc
        obtain ⟨l, hl, rfl⟩ := Option.map_eq_some_iff.mp hc
        obtain ⟨o, ho, hdo⟩ := bind_some hd
        have hmem := List.mem_of_find?_eq_some hfind
        have hcond := List.find?_some hfind
        simp only [Bool.and_eq_true, Bool.not_eq_true', beq_iff_eq] at hcond
        obtain ⟨hnp, hRq⟩ := hcond
        have hrq : q ∈ Region.ready .any ops listed := by rw [hrd]; exact hmem
        have hpE : ∀ p ∈ E, pend P n ops listed p.i = true := fun p hp => let ⟨_, _, _, _, _, _, _, h6, _⟩ := hP p hp; h6
        have hqE : ∀ p ∈ E, p.i ≠ q := fun p hp e' => by
          have := hpE p hp
          rw [e', hnp] at this
          cases this
        have hrq' := ready_lists hrq hqE
        obtain ⟨F', rfl⟩ : ∃ F', F = F' + 1 := ⟨F - 1, by have := cnt_pos hrq'; omega⟩
        have hskip : ∀ p ∈ E, p.i ≠ ops.size ∧ pend P n ops listed p.i = true := fun p hp => ⟨fun e' => by
          obtain ⟨_, _, g1, _⟩ := hP p hp
          have := (Array.getElem?_eq_some_iff.1 g1).1
          omega, hpE p hp⟩
        refine ⟨fun h0 => (by rw [h0] at hrq'; cases hrq'), fun m hm => ?_⟩
        rcases closeP_ready rfl hs hRq (.inr hnp) hE hskip hm with rfl | hpm
        · -- its turn
          simp only [drawD] at hr
          split at hr
          · next t1 h1 hrr =>
            split at hr
            · next hheld =>
              obtain ⟨hdst, hdd, hop, hgu⟩ := operN_parts hdo
              have hone := oper_sound (K := fun a1 w1 => ∃ e1, Step e h w e1 h1 w1 ∧ FrR e1 t1 a1.tmps ∧ n ≤ a1.tmps.size ∧ a1.defers = d0) (Q := Q) (t' := t) (h' := h) hD hdo hcall hg hf hn st.rep hrr
                (fun e2 t2 h2 a2 w2 st2 hf2 hn2 hd2 hr2 => by
                  simp only [regionD, Option.some.injEq, Prod.mk.injEq] at hr2
                  obtain ⟨rfl, rfl⟩ := hr2
                  exact ⟨e2, st2, hf2, hn2, hd2.trans hd0⟩)
              have hone' : wpOp P ops Q m (fun a1 w1 => ∃ e1, Step e h w e1 h1 w1 ∧ FrR e1 t1 a1.tmps ∧ n ≤ a1.tmps.size ∧ a1.defers = d0) a w := by
                unfold wpOp
                simp only [ho]
                split
                · next hw => rw [if_pos hw] at hone; exact .inl hone
                · next hw => rw [if_neg hw] at hone; exact hone
              have hsel' := Region.noSelect_spec hsel
              have hap : ∀ p ∈ E, (∀ x, p.d = some x → x ∉ o.looksAt ops) ∧ ∀ x, p.d = some x → o.dst ≠ some x := fun p hp => by
                obtain ⟨o2, d2, g1, g2, g3, g4, g5, g6, g7⟩ := hP p hp
                have hpw := EOk.waits hcl hE hs hp g1
                have hlt : m < (lists listed E).size := by rw [lists_size, hs]; exact (Array.getElem?_eq_some_iff.1 ho).1
                obtain ⟨hqun, oq, hoq, hall⟩ := mem_ready.1 hrq
                rw [ho] at hoq
                cases hoq
                have h1 := freeW_spec g5 g1 ho (Ne.symm (hqE p hp)) hqun (fun ee hee heb heq => by
                  have := hall ee hee heb
                  rw [heq] at this
                  have h2 := EOk.unl hE p hp
                  have hlt2 : p.i < listed.size := by rw [hs]; exact (Array.getElem?_eq_some_iff.1 g1).1
                  rw [getD_both hlt2, this] at h2
                  cases h2) (fun ee hee heb heq => by
                  have := hpw ee hee heb
                  rw [heq] at this
                  have h2 := (mem_ready.1 hrq').1
                  rw [getD_both hlt, this] at h2
                  cases h2)
                obtain ⟨h2, h3, h4⟩ := Oper.apart_spec h1
                exact ⟨fun x hx => h2 x (g3 ▸ hx), fun x hx => h3 x (g3 ▸ hx)⟩
              refine wpOp_mono (fun a'' w' ⟨a1, ea, e1, st1, hf1, hn1, hd1⟩ => ?_) (wpOp_puts ho (fun cs b => hsel' m o cs b ho) hQ hone' hap)
              subst ea
              have hh1 := heldD_ok hheld
              have hin : ∀ L : Array Bool, (∀ j, ((lists listed E).setIfInBounds m true).getD j false = true → L.getD j false = true) → L.getD m false = true := fun L hL => by
                refine hL m ?_
                have hlt : m < (lists listed E).size := by rw [lists_size, hs]; exact (Array.getElem?_eq_some_iff.1 ho).1
                simp [hlt]
              have hweak : ∀ (L : Array Bool) w2, L.getD m false = true → SHeld D e1 (dropD m held) L w2 → SHeld D e held L w2 := fun L w2 hLm ⟨e2, h2, k1, k2, k3⟩ => by
                refine ⟨e2, h2, st1.le.trans k1, k2, fun x hx hj => k3 x (mem_dropD.2 ⟨hx, ?_⟩) hj⟩
                cases hcn : x.2.2.2.contains m with
                | false => rfl
                | true =>
                  have := hj m (by simpa using hcn)
                  rw [hLm] at this
                  cases this
              have st' := st.trans st1
              refine ⟨hweak _ _ (hin _ fun _ h => h) ⟨e1, h1, Env.le.refl e1, st1.rep, fun x hx _ => hh1 x hx⟩, ?_⟩
              refine wpAnyS_weaken (S := SHeld D e1 (dropD m held)) (fun L w2 hL hS => hweak L w2 (hin L hL) hS) ?_
              rw [← lists_set]
              refine ihN F' k (by omega) _ l hl (by simp [hs]) (hcl.set hrq) (dropD m held) e1 _ a1 h1 w' E ?_ (hg.le st1.le) hf1 hn1 hd1 st' hh1 (fun x hx => hhi x (mem_dropD.1 hx).1) (EOk.set hE hqE) (fun p hp => ?_) hr
              · rw [lists_set]
                have := cnt_set hrq'
                omega
              · obtain ⟨o2, d2, g1, g2, g3, g4, g5, g6, g7⟩ := hP p hp
                refine ⟨o2, d2, g1, g2, g3, g4, freeW_set g5, pend_set g6, ?_⟩
                rcases g7 with ⟨hlo, ob, k1, k2, k3, k4, k5, k6, k7⟩ | ⟨s, qq, off, hfa, k1, k2, k3, k4⟩
                · refine .inl ⟨hlo, ob, k1, ?_, Nat.lt_of_lt_of_le k3 st1.size, k4, fun b x hx => ?_, k6, k7⟩
                  · rw [st1.block p.B k3 fun ⟨b, ob', x, _, _, hx, hB⟩ => k5 b x hx hB]
                    exact k2
                  · rcases st1.rng b x hx with ⟨c, y, hy, hyx⟩ | hge
                    · rw [← hyx]; exact k5 c y hy
                    · omega
                · have hqq : listed.getD qq false = false := by
                    cases hq : listed.getD qq false with
                    | false => rfl
                    | true =>
                      obtain ⟨j1, j2⟩ := fa_takeable g1 g2 g5 hfa (EOk.unl hE p hp) hq
                      rw [htk p.i j1] at j2
                      cases j2
                  obtain ⟨p', hp', hpi, hpr⟩ := k4 hqq
                  have hmq : m ≠ qq := fun e' => hqE p' hp' (by rw [hpi, e'])
                  exact .inr ⟨s, qq, off, hfa, k1, k2, fun hq => (by rw [getD_set_ne false hmq, hqq] at hq; cases hq), fun _ => ⟨p', hp', hpi, hpr⟩⟩
            · cases hr
          · cases hr
        · exact pend_step (ihN F' (k + 1) (by omega)) hc0 hs hcl hnd htk hcnt hg hf hn hd0 st hh hhi hE hP hr hm hpm
      · split at hc
        · next i hfind =>
          -- a new object
          obtain ⟨d, hd, hc⟩ := bind_some hc
          obtain ⟨l, hl, rfl⟩ := Option.map_eq_some_iff.mp hc
          obtain ⟨o, ho, hdo⟩ := bind_some hd
          have hmem := List.mem_of_find?_eq_some hfind
          have hcond := List.find?_some hfind
          simp only [Bool.and_eq_true, beq_iff_eq] at hcond
          obtain ⟨⟨hil, hip⟩, hRi⟩ := hcond
          have hri : i ∈ Region.ready .any ops listed := by rw [hrd]; exact hmem
          have hpE : ∀ p ∈ E, pend P n ops listed p.i = true := fun p hp => let ⟨_, _, _, _, _, _, _, h6, _⟩ := hP p hp; h6
          by_cases hiE : ∃ p ∈ E, p.i = i
          · -- it came up ahead of its turn
            obtain ⟨p, hpE', rfl⟩ := hiE
            obtain ⟨o2, d2, g1, g2, g3, g4, g5, g6, g7⟩ := hP p hpE'
            rw [ho] at g1
            cases g1
            rw [hdo] at g2
            cases g2
            obtain ⟨hdst, hdd, hop, hgu⟩ := operN_parts hdo
            have hdst' : ∀ k, o.dst = some k → k < a.tmps.size := fun k hk => Nat.lt_of_lt_of_le (hdst k hk) hn
            obtain ⟨o3, d3, j1, j2, _, hlo⟩ := isLate_parts hil
            rw [ho] at j1
            cases j1
            rcases g7 with ⟨_, ob, k1, k2, k3, k4, k5, k6, k7⟩ | ⟨s, q, off, hfa, _⟩
            · simp only [drawD] at hr
              split at hr
              · next t1 h1 hrr =>
                split at hr
                · next hheld =>
                  have hwd : wantedD d.guard t = true := by rw [g4]; rfl
                  have hval : ∃ v, opD D t h d.op = some (.val v h1) ∧ t1 = Fr.put t d.dst v := by
                    simp only [regionD, hwd, if_true] at hrr
                    rcases late_cases hlo hop with ⟨_, _, _, _, hdz⟩ | ⟨_, _, hdz⟩
                    · rw [hdz] at hrr ⊢
                      simp only [opD, Option.some.injEq, Prod.mk.injEq] at hrr ⊢
                      obtain ⟨rfl, rfl⟩ := hrr
                      exact ⟨_, rfl, rfl⟩
                    · rw [hdz] at hrr ⊢
                      simp only [opD, Option.some.injEq, Prod.mk.injEq] at hrr ⊢
                      obtain ⟨rfl, rfl⟩ := hrr
                      exact ⟨_, rfl, rfl⟩
                  obtain ⟨v, hv, rfl⟩ := hval
                  obtain ⟨e2, hle2, st2, hvv, hrng⟩ := k1 e0 h0 w0 e h w t v h1 hv st k2 k3 k4 k5
                  obtain ⟨E1, E2, rfl⟩ := List.append_of_mem hpE'
                  have hneq := EOk.mid_ne hE
                  have hin : ∀ q' ∈ E1 ++ E2, q' ∈ E1 ++ p :: E2 := fun q' hq' => by
                    rcases List.mem_append.1 hq' with hq' | hq'
                    · exact List.mem_append.2 (.inl hq')
                    · exact List.mem_append.2 (.inr (List.mem_cons_of_mem _ hq'))
                  have hdne : ∀ q' ∈ E1 ++ E2, ∀ x, p.d = some x → q'.d ≠ some x := fun q' hq' x hx' => by
                    obtain ⟨o3, d3, j1, j2, j3, _⟩ := hP q' (hin q' hq')
                    rw [j3]
                    exact nd_ne hnd ho j1 (fun e' => hneq q' hq' e'.symm) x (g3 ▸ hx')
                  have heL := lists_remove listed p E2 E1
                  have heP := puts_remove a p E2 (fun q' hq' => hdne q' (List.mem_append.2 (.inr hq'))) E1
                  rw [← heL, ← heP, g3]
                  have hfp : FrR e2 (Fr.put t d.dst v) (a.put o.dst p.rv).tmps := by rw [hdd]; exact hf.put hle2 hvv hdst'
                  refine wpAnyS_weaken (S := SHeld D e2 held) (fun L w2 _ ⟨e3, h3, m1, m2, m3⟩ => ⟨e3, h3, hle2.trans m1, m2, m3⟩) ?_
                  refine ihN F k (by omega) _ l hl (by simp [hs]) (hcl.set hri) held e2 _ _ h1 w (E1 ++ E2) (by rw [heL]; exact hcnt) (hg.le hle2) hfp (hput o _) (hdef o _) st2 (heldD_ok hheld) hhi (EOk.remove hE) (fun p' hp' => ?_) hr
                  obtain ⟨o4, d4, m1, m2, m3, m4, m5, m6, m7⟩ := hP p' (hin p' hp')
                  refine ⟨o4, d4, m1, m2, m3, m4, freeW_set m5, pend_set m6, ?_⟩
                  rcases m7 with ⟨hlo4, ob4, n1, n2, n3, n4, n5, n6, n7⟩ | ⟨s, q, off, hfa, n1, n2, n3, n4⟩
                  · refine .inl ⟨hlo4, ob4, n1, n2, n3, n4, fun b x hx => ?_, fun p'' hp'' => n6 p'' (hin p'' hp''), n7⟩
                    rcases hrng b x hx with hx | hx
                    · exact n5 b x hx
                    · exact fun e' => hneq p' hp' (n6 p (List.mem_append.2 (.inr (List.mem_cons_self ..))) hil (hx.symm.trans e')).symm
                  · by_cases hpq : p.i = q
                    · refine .inr ⟨s, q, off, hfa, n1, n2, fun _ => ?_, fun hq => ?_⟩
                      · have hq0 : listed.getD q false = false := by
                          have := EOk.unl hE p (List.mem_append.2 (.inr (List.mem_cons_self ..)))
                          have hlt2 : p.i < listed.size := by rw [hs]; exact (Array.getElem?_eq_some_iff.1 ho).1
                          rw [getD_both hlt2, hpq] at this
                          exact this
                        obtain ⟨p2, hp2, hp2i, hp2r⟩ := n4 hq0
                        have hp2p : p2 = p := by
                          rcases List.mem_append.1 hp2 with hx | hx
                          · exact (hneq p2 (List.mem_append.2 (.inl hx)) (hp2i.trans hpq.symm)).elim
                          · rcases List.mem_cons.1 hx with hx | hx
                            · exact hx
                            · exact (hneq p2 (List.mem_append.2 (.inr hx)) (hp2i.trans hpq.symm)).elim
                        subst hp2p
                        obtain ⟨_, _, _, oq, Tq, hoq, _, hdq⟩ := hfa
                        rw [← hpq, ho] at hoq
                        cases hoq
                        rw [hdq, ← hp2r]
                        exact put_get a _ (hdst' s hdq)
                      · have hlt2 : p.i < listed.size := by rw [hs]; exact (Array.getElem?_eq_some_iff.1 ho).1
                        rw [← hpq] at hq
                        simp [hlt2] at hq
                    · refine .inr ⟨s, q, off, hfa, n1, n2, fun hq => ?_, fun hq => ?_⟩
                      · rw [getD_set_ne false hpq] at hq
                        obtain ⟨_, _, _, oq, Tq, hoq, _, hdq⟩ := hfa
                        rw [put_get_ne _ _ (fun e' => nd_ne hnd ho hoq hpq s e' hdq)]
                        exact n3 hq
                      · rw [getD_set_ne false hpq] at hq
                        obtain ⟨p2, hp2, hp2i, hp2r⟩ := n4 hq
                        refine ⟨p2, ?_, hp2i, hp2r⟩
                        rcases List.mem_append.1 hp2 with hx | hx
                        · exact List.mem_append.2 (.inl hx)
                        · exact List.mem_append.2 (.inr ((List.mem_cons.1 hx).resolve_left fun e' => hpq (by rw [← e']; exact hp2i)))
                · cases hr
              · cases hr
            · obtain ⟨⟨T, f, hofa⟩, _⟩ := hfa
              unfold lateO at hlo
              rw [hofa] at hlo
              cases hlo
          · -- it comes up in its turn
            have hiE' : ∀ p ∈ E, p.i ≠ i := fun p hp e' => hiE ⟨p, hp, e'⟩
            have hri' := ready_lists hri hiE'
            obtain ⟨F', rfl⟩ : ∃ F', F = F' + 1 := ⟨F - 1, by have := cnt_pos hri'; omega⟩
            refine ⟨fun h0 => (by rw [h0] at hri'; cases hri'), fun m hm => ?_⟩
            have hpm : pend P n ops listed m = true := by
              rcases closeP_ready rfl hs hRi (.inl rfl) hE (fun p hp => ⟨hiE' p hp, hpE p hp⟩) hm with rfl | hpm
              · exact hip
              · exact hpm
            exact pend_step (ihN F' (k + 1) (by omega)) hc0 hs hcl hnd htk hcnt hg hf hn hd0 st hh hhi hE hP hr hm hpm
        · cases hc

theorem draw_ok (hm : P.follows .mixedOrders = true) (hD : DOk P D) (hcall : CallOk P call) {dl : List (DOper × SK)} (hc : drawC P n ops = some dl) : DrawOk P D call n ops dl := by
  unfold drawC at hc
  split at hc
  · next hsel =>
    simp only [Bool.and_eq_true] at hsel
    intro id Q e t a h w t' h' hg hf hn r hr hK
    have st0 : Step e h w e h { w with drawn := w.drawn + 1 } := Step.grow r (Nat.le_refl _) rfl rfl rfl fun _ _ => rfl
    have hcl : Closed .any ops (Array.replicate ops.size false) := fun j o _ hl => by
      by_cases hj : j < ops.size <;> simp [hj] at hl
    have hcnt : cnt ops (Array.replicate ops.size false) ≤ ops.size := by
      unfold cnt
      refine Nat.le_trans (List.length_filter_le _ _) ?_
      simp
    have hK' : ∀ e' a' w', Step e h { w with drawn := w.drawn + 1 } e' h' w' → FrR e' t' a'.tmps → n ≤ a'.tmps.size → a'.defers = a.defers → Q .normal a' w' := fun e' a' w' st => hK e' a' w' (st0.trans st)
    refine wp_region_noPanic (wp_region_any hm (wpAny_of_S _ _ _ _ (draw_all hD hcall hsel.1 hsel.2 (Q := NoPanic Q) (fun c a w hc => hc) (fun e' a' w' h1 h2 h3 h4 => hK' e' a' w' h1 h2 h3 h4) _ ops.size ops.size (Nat.lt_succ_self _) _ dl hc (by simp) hcl [] e t a h _ [] hcnt hg hf hn rfl (Step.refl st0.rep) (fun x hx => by cases hx) (fun x hx => by cases hx) trivial (fun p hp => by cases hp) hr)))
  · cases hc
end
end Go.Dx
