/- D: operations that came up ahead of their turn. -/
import Derived.Test.YtfdplefijefeiaaGreatDoorZv
namespace Go.Dx
open Go

structure Pd where
  i : Nat
  d : Option Tmp
  rv : Value
  B : Nat
def puts (a : Act) : List Pd → Act
  | [] => a
  | p :: E => (puts a E).put p.d p.rv
def lists (L : Array Bool) : List Pd → Array Bool
  | [] => L
  | p :: E => (lists L E).setIfInBounds p.i true

theorem set_comm (L : Array Bool) (i j : Nat) : (L.setIfInBounds i true).setIfInBounds j true = (L.setIfInBounds j true).setIfInBounds i true := by
  by_cases h : i = j
  · rw [h]
  · exact Array.setIfInBounds_comm _ _ h
theorem lists_set (L : Array Bool) (i : Nat) : ∀ E, lists (L.setIfInBounds i true) E = (lists L E).setIfInBounds i true
  | [] => rfl
  | p :: E => by simp only [lists]; rw [lists_set L i E, set_comm]
theorem lists_remove (L : Array Bool) (p : Pd) (E2 : List Pd) : ∀ E1, lists (L.setIfInBounds p.i true) (E1 ++ E2) = lists L (E1 ++ p :: E2)
  | [] => by simp only [List.nil_append, lists]; exact lists_set L p.i E2
  | q :: E1 => by simp only [List.cons_append, lists]; rw [lists_remove L p E2 E1]
theorem lists_size (L : Array Bool) : ∀ E, (lists L E).size = L.size
  | [] => rfl
  | p :: E => by simp only [lists, Array.size_setIfInBounds]; exact lists_size L E
theorem puts_defers (a : Act) : ∀ E, (puts a E).defers = a.defers
  | [] => rfl
  | p :: E => by simp only [puts]; rw [← puts_defers a E]; cases p.d <;> rfl
theorem puts_size (a : Act) : ∀ E, (puts a E).tmps.size = a.tmps.size
  | [] => rfl
  | p :: E => by simp only [puts]; rw [← puts_size a E]; cases p.d <;> simp [Act.put]
theorem puts_put (a : Act) (d : Option Tmp) (v : Value) : ∀ E : List Pd, (∀ p ∈ E, ∀ x, d = some x → p.d ≠ some x) → puts (a.put d v) E = (puts a E).put d v
  | [], _ => rfl
  | p :: E, h => by
    simp only [puts]
    rw [puts_put a d v E fun q hq => h q (List.mem_cons_of_mem _ hq)]
    exact Act.put_comm _ v p.rv (h p (List.mem_cons_self ..))
theorem puts_remove (a : Act) (p : Pd) (E2 : List Pd) (h : ∀ q ∈ E2, ∀ x, p.d = some x → q.d ≠ some x) : ∀ E1, puts (a.put p.d p.rv) (E1 ++ E2) = puts a (E1 ++ p :: E2)
  | [] => puts_put a p.d p.rv E2 h
  | q :: E1 => by simp only [List.cons_append, puts]; rw [puts_remove a p E2 h E1]

theorem lists_false {L : Array Bool} {j : Nat} : ∀ {E : List Pd}, (lists L E).getD j true = false → L.getD j true = false ∧ ∀ p ∈ E, p.i ≠ j
  | [], h => ⟨h, fun p hp => by cases hp⟩
  | p :: E, h => by
    obtain ⟨h1, h2⟩ := getD_set_false h
    obtain ⟨h3, h4⟩ := lists_false h1
    refine ⟨h3, fun q hq => ?_⟩
    rcases List.mem_cons.1 hq with rfl | hq
    · exact h2
    · exact h4 q hq
theorem lists_keep {L : Array Bool} {j : Nat} (h : L.getD j false = true) : ∀ E : List Pd, (lists L E).getD j false = true
  | [] => h
  | _ :: E => getD_set_true (lists_keep h E)
/-- listed only because it came up ahead -/
theorem lists_true {L : Array Bool} {j : Nat} : ∀ {E : List Pd}, (lists L E).getD j false = true → L.getD j false = true ∨ ∃ p ∈ E, p.i = j
  | [], h => .inl h
  | p :: E, h => by
    by_cases hj : p.i = j
    · exact .inr ⟨p, List.mem_cons_self .., hj⟩
    · rw [lists, getD_set_ne false hj] at h
      exact (lists_true h).imp id fun ⟨q, hq, hh⟩ => ⟨q, List.mem_cons_of_mem _ hq, hh⟩
theorem ready_lists {ops : Array Oper} {L : Array Bool} {j : Nat} (h : j ∈ Region.ready .any ops L) : ∀ {E : List Pd}, (∀ p ∈ E, p.i ≠ j) → j ∈ Region.ready .any ops (lists L E)
  | [], _ => h
  | p :: E, hE => ready_mono (ready_lists h fun q hq => hE q (List.mem_cons_of_mem _ hq)) (Ne.symm (hE p (List.mem_cons_self ..)))

def EOk (ops : Array Oper) (L : Array Bool) : List Pd → Prop
  | [] => True
  | p :: E => p.i ∈ Region.ready .any ops (lists L E) ∧ EOk ops L E
section
variable {ops : Array Oper} {L : Array Bool}
theorem EOk.unl : ∀ {E : List Pd}, EOk ops L E → ∀ p ∈ E, L.getD p.i true = false
  | q :: E, h, p, hp => by
    rcases List.mem_cons.1 hp with rfl | hp
    · exact (lists_false (mem_ready.1 h.1).1).1
    · exact EOk.unl h.2 p hp
theorem EOk.head_ne {p : Pd} {E : List Pd} (h : EOk ops L (p :: E)) : ∀ q ∈ E, q.i ≠ p.i := (lists_false (mem_ready.1 h.1).1).2
theorem EOk.mid_ne {p : Pd} {E2 : List Pd} : ∀ {E1 : List Pd}, EOk ops L (E1 ++ p :: E2) → ∀ q ∈ E1 ++ E2, q.i ≠ p.i
  | [], h => EOk.head_ne h
  | r :: E1, h => fun q hq => by
    rcases List.mem_cons.1 hq with rfl | hq
    · exact fun e => EOk.head_ne h p (by simp) e.symm
    · exact EOk.mid_ne h.2 q hq
theorem EOk.set {i : Nat} : ∀ {E : List Pd}, EOk ops L E → (∀ p ∈ E, p.i ≠ i) → EOk ops (L.setIfInBounds i true) E
  | [], _, _ => trivial
  | p :: E, h, hi => ⟨by rw [lists_set]; exact ready_mono h.1 (hi p (List.mem_cons_self ..)), EOk.set h.2 fun q hq => hi q (List.mem_cons_of_mem _ hq)⟩
theorem EOk.remove {p : Pd} {E2 : List Pd} : ∀ {E1 : List Pd}, EOk ops L (E1 ++ p :: E2) → EOk ops (L.setIfInBounds p.i true) (E1 ++ E2)
  | [], h => EOk.set h.2 (EOk.head_ne h)
  | q :: E1, h => ⟨by have := h.1; show q.i ∈ Region.ready .any ops (lists (L.setIfInBounds p.i true) (E1 ++ E2)); rw [lists_remove]; exact this, EOk.remove h.2⟩
theorem EOk.closed (hc : Closed .any ops L) : ∀ {E : List Pd}, EOk ops L E → Closed .any ops (lists L E)
  | [], _ => hc
  | _ :: _, h => (EOk.closed hc h.2).set h.1
theorem EOk.nil (hr : Region.ready .any ops L = []) : ∀ {E : List Pd}, EOk ops L E → E = []
  | [], _ => rfl
  | p :: E, h => by
    have := EOk.nil hr h.2
    subst this
    have := h.1
    simp only [lists] at this
    rw [hr] at this
    cases this
/-- what it waits for has come up -/
theorem EOk.waits {E : List Pd} (hc : Closed .any ops L) (hE : EOk ops L E) (hs : L.size = ops.size) {p : Pd} (hp : p ∈ E) {o : Oper} (ho : ops[p.i]? = some o) : ∀ e ∈ o.after, Region.binds .any e = true → (lists L E).getD e.on false = true := by
  refine hE.closed hc p.i o ho ?_
  have hlt : p.i < L.size := by rw [hs]; exact (Array.getElem?_eq_some_iff.1 ho).1
  have : ∀ {E : List Pd}, p ∈ E → (lists L E).getD p.i false = true := by
    intro E
    induction E with
    | nil => exact fun h => by cases h
    | cons q E ih =>
      intro h
      rcases List.mem_cons.1 h with rfl | h
      · simp only [lists]
        have : p.i < (lists L E).size := by rw [lists_size]; exact hlt
        simp [this]
      · exact getD_set_true (ih h)
  exact this hp
end

/-- how many have not come up -/
def cnt (ops : Array Oper) (L : Array Bool) : Nat := ((List.range ops.size).filter fun i => !L.getD i true).length
theorem filter_lt {α : Type} (f g : α → Bool) (hfg : ∀ x, g x = true → f x = true) : ∀ {l : List α} {x : α}, x ∈ l → f x = true → g x = false → (l.filter g).length < (l.filter f).length
  | y :: l, x, hx, h1, h2 => by
    have hle : ∀ l : List α, (l.filter g).length ≤ (l.filter f).length := fun l => by
      induction l with
      | nil => simp
      | cons z l ih =>
        simp only [List.filter_cons]
        by_cases hg : g z = true
        · rw [if_pos hg, if_pos (hfg z hg)]; simp; exact ih
        · rw [if_neg hg]
          split
          · simp; omega
          · exact ih
    rcases List.mem_cons.1 hx with rfl | hx
    · simp only [List.filter_cons]
      rw [if_pos h1, if_neg (by simp [h2])]
      have := hle l
      simp; omega
    · have ih := filter_lt f g hfg hx h1 h2
      simp only [List.filter_cons]
      by_cases hg : g y = true
      · rw [if_pos hg, if_pos (hfg y hg)]; simp; omega
      · rw [if_neg hg]
        split
        · simp; omega
        · exact ih
theorem cnt_set {ops : Array Oper} {L : Array Bool} {i : Nat} (h : i ∈ Region.ready .any ops L) : cnt ops (L.setIfInBounds i true) < cnt ops L := by
  obtain ⟨h0, o, ho, _⟩ := mem_ready.1 h
  refine filter_lt _ _ (fun j hj => ?_) (x := i) (List.mem_range.2 (Array.getElem?_eq_some_iff.1 ho).1) (by rw [h0]; rfl) ?_
  · have := getD_set_false (by simpa using hj)
    simpa using this.1
  · cases hh : (L.setIfInBounds i true).getD i true with
    | true => rfl
    | false => exact ((getD_set_false hh).2 rfl).elim
theorem cnt_pos {ops : Array Oper} {L : Array Bool} {i : Nat} (h : i ∈ Region.ready .any ops L) : 0 < cnt ops L := Nat.lt_of_le_of_lt (Nat.zero_le _) (cnt_set h)

section
variable {P : Program} {n : Nat} {ops : Array Oper} {L : Array Bool} {skip : Nat}
theorem closeP_size : ∀ (f : Nat) (R : Array Bool), (closeP P n ops L skip f R).size = R.size
  | 0, R => rfl
  | f + 1, R => by
    simp only [closeP]
    split
    · rw [closeP_size f]; simp
    · rfl
theorem closeP_keep {j : Nat} : ∀ (f : Nat) (R : Array Bool), R.getD j false = true → (closeP P n ops L skip f R).getD j false = true
  | 0, R, h => h
  | f + 1, R, h => by
    simp only [closeP]
    split
    · exact closeP_keep f _ (getD_set_true h)
    · exact h
theorem closeP_mem {j : Nat} : ∀ (f : Nat) (R : Array Bool), (closeP P n ops L skip f R).getD j false = true → R.getD j false = true ∨ (j ≠ skip ∧ pend P n ops L j = true)
  | 0, R, h => .inl h
  | f + 1, R, h => by
    simp only [closeP] at h
    split at h
    · next m hm =>
      rcases closeP_mem f _ h with h1 | h1
      · by_cases hj : m = j
        · subst hj
          have := List.find?_some hm
          simp only [Bool.and_eq_true, bne_iff_ne] at this
          exact .inr this
        · rw [getD_set_ne false hj] at h1; exact .inl h1
      · exact .inr h1
    · exact .inl h
theorem getD_both {R : Array Bool} {j : Nat} (hj : j < R.size) : R.getD j true = R.getD j false := by simp [hj]
theorem ready_sub {X R : Array Bool} (hX : X.size = ops.size) (hR : R.size = ops.size) (hsub : ∀ j, X.getD j false = true → R.getD j false = true) {j : Nat} (h : j ∈ Region.ready .any ops X) : R.getD j false = true ∨ j ∈ Region.ready .any ops R := by
  obtain ⟨h0, o, ho, hall⟩ := mem_ready.1 h
  have hj : j < R.size := by rw [hR]; exact (Array.getElem?_eq_some_iff.1 ho).1
  cases hh : R.getD j false with
  | true => exact .inl rfl
  | false => exact .inr (mem_ready.2 ⟨by rw [getD_both hj]; exact hh, o, ho, fun e he hb => hsub _ (hall e he hb)⟩)
/-- all that came up ahead lie in the closure -/
theorem closeP_all {f : Nat} {R : Array Bool} (hR : closeP P n ops L skip f L = R) (hs : L.size = ops.size) (hrd : ∀ m ∈ Region.ready .any ops R, m = skip ∨ pend P n ops L m = false) :
    ∀ {E : List Pd}, EOk ops L E → (∀ p ∈ E, p.i ≠ skip ∧ pend P n ops L p.i = true) → ∀ j, (lists L E).getD j false = true → R.getD j false = true
  | [], _, _, j, h => by rw [← hR]; exact closeP_keep f L h
  | p :: E, hE, hp, j, h => by
    have ih := closeP_all hR hs hrd hE.2 fun q hq => hp q (List.mem_cons_of_mem _ hq)
    by_cases hj : p.i = j
    · subst hj
      have hRs : R.size = ops.size := by rw [← hR, closeP_size, hs]
      rcases ready_sub (by rw [lists_size, hs]) hRs ih hE.1 with h1 | h1
      · exact h1
      · obtain ⟨h2, h3⟩ := hp p (List.mem_cons_self ..)
        rcases hrd _ h1 with h4 | h4
        · exact (h2 h4).elim
        · rw [h3] at h4; cases h4
    · simp only [lists] at h
      rw [getD_set_ne false hj] at h
      exact ih j h
/-- whoever may come up is pending, or the one that is left -/
theorem closeP_ready {f q : Nat} {R : Array Bool} (hR : closeP P n ops L skip f L = R) (hs : L.size = ops.size) (hq : Region.ready .any ops R = [q]) (hrd : q = skip ∨ pend P n ops L q = false)
    {E : List Pd} (hE : EOk ops L E) (hp : ∀ p ∈ E, p.i ≠ skip ∧ pend P n ops L p.i = true) {m : Nat} (hm : m ∈ Region.ready .any ops (lists L E)) : m = q ∨ pend P n ops L m = true := by
  have hrd' : ∀ m ∈ Region.ready .any ops R, m = skip ∨ pend P n ops L m = false := fun m hm => by
    rw [hq] at hm
    obtain rfl : m = q := by simpa using hm
    exact hrd
  have hRs : R.size = ops.size := by rw [← hR, closeP_size, hs]
  rcases ready_sub (by rw [lists_size, hs]) hRs (closeP_all hR hs hrd' hE hp) hm with h1 | h1
  · rw [← hR] at h1
    rcases closeP_mem f L h1 with h2 | h2
    · have h3 := (lists_false (mem_ready.1 hm).1).1
      have hlt : m < L.size := by
        obtain ⟨_, o, ho, _⟩ := mem_ready.1 hm
        rw [hs]; exact (Array.getElem?_eq_some_iff.1 ho).1
      rw [getD_both hlt, h2] at h3
      cases h3
    · exact .inr h2.2
  · rw [hq] at h1
    exact .inl (by simpa using h1)
end

/-! ### One operation beside those that came up ahead -/
section
variable {P : Program} {ops : Array Oper} {Q : Exit → Act → World → Prop}
theorem wpOp_putR {j : Nat} {oj : Oper} {d : Option Tmp} {v : Value} (hj : ops[j]? = some oj) (hsj : ∀ cs b, oj.op ≠ .select cs b)
    (h1 : ∀ x, d = some x → x ∉ oj.looksAt ops) (h2 : ∀ x, d = some x → oj.dst ≠ some x) (hQ : ∀ c a w, ¬ Q (.panic c) a w) {K : Act → World → Prop} {a : Act} {w : World}
    (h : wpOp P ops Q j K a w) : wpOp P ops Q j (fun a'' w' => ∃ a', a'' = a'.put d v ∧ K a' w') (a.put d v) w := by
  unfold wpOp at *
  simp only [hj] at *
  rw [wanted_put oj a d v h1]
  split
  · rename_i hw
    simp only [hw, if_true] at h
    rcases h with h | ⟨hasks, hlets⟩
    case inr => exact .inr ⟨by unfold Oper.asks at *; rw [execOp_put oj hsj a d v h1]; exact hasks, hlets⟩
    refine .inl ?_
    unfold Oper.wp at *
    rw [execOp_put oj hsj a d v h1]
    generalize (execOp a.eval oj).run P w = r at *
    cases r with
    | ok nx w' =>
      cases nx <;> simp only [Oper.upon] at h ⊢
      case value u => exact ⟨_, Act.put_comm a v u h2, h⟩
      case skip => exact ⟨_, Act.put_comm a v undef h2, h⟩
      case defer f => exact ⟨_, by rw [Act.put_defers]; exact Act.put_comm _ v undef h2, h⟩
      case enter f args =>
        refine Calls.mono h fun e w'' he => ?_
        cases e with
        | returned u => exact ⟨_, Act.put_comm a v u h2, he⟩
        | panicked c => exact (hQ _ _ _ he).elim
        | outgrown => exact he
      case row row args => exact Rows.mono h fun u w'' he => ⟨_, Act.put_comm a v u h2, he⟩
    | halt x w' =>
      cases x <;> simp only [Oper.upon] at h ⊢
      case panic u => exact (hQ _ _ _ h).elim
  · rename_i hw
    simp only [hw] at h
    exact ⟨_, Act.put_comm a v undef h2, h⟩
theorem wpOp_puts {j : Nat} {oj : Oper} (hj : ops[j]? = some oj) (hsj : ∀ cs b, oj.op ≠ .select cs b) (hQ : ∀ c a w, ¬ Q (.panic c) a w) {K : Act → World → Prop} {a : Act} {w : World}
    (h : wpOp P ops Q j K a w) : ∀ {E : List Pd}, (∀ p ∈ E, (∀ x, p.d = some x → x ∉ oj.looksAt ops) ∧ ∀ x, p.d = some x → oj.dst ≠ some x) → wpOp P ops Q j (fun a'' w' => ∃ a', a'' = puts a' E ∧ K a' w') (puts a E) w
  | [], _ => wpOp_mono (fun a' w' h' => ⟨a', rfl, h'⟩) h
  | p :: E, hE => by
    have ih := wpOp_puts hj hsj hQ h fun q hq => hE q (List.mem_cons_of_mem _ hq)
    obtain ⟨h1, h2⟩ := hE p (List.mem_cons_self ..)
    exact wpOp_mono (fun a'' w' ⟨a1, e1, a2, e2, hk⟩ => ⟨a2, by rw [e1, e2]; rfl, hk⟩) (wpOp_putR hj hsj h1 h2 hQ ih)
theorem execOp_puts (o : Oper) (hs : ∀ cs b, o.op ≠ .select cs b) (a : Act) : ∀ {E : List Pd}, (∀ p ∈ E, ∀ x, p.d = some x → x ∉ o.looksAt ops) → execOp (puts a E).eval o = execOp a.eval o
  | [], _ => rfl
  | p :: E, h => (execOp_put o hs _ p.d p.rv (h p (List.mem_cons_self ..))).trans (execOp_puts o hs a fun q hq => h q (List.mem_cons_of_mem _ hq))
theorem wanted_puts (o : Oper) (a : Act) : ∀ {E : List Pd}, (∀ p ∈ E, ∀ x, p.d = some x → x ∉ o.looksAt ops) → Region.wanted o (yielded ops (puts a E).tmps) = Region.wanted o (yielded ops a.tmps)
  | [], _ => rfl
  | p :: E, h => (wanted_put o _ p.d p.rv (h p (List.mem_cons_self ..))).trans (wanted_puts o a fun q hq => h q (List.mem_cons_of_mem _ hq))
theorem put_get (a : Act) {s : Tmp} (v : Value) (hs : s < a.tmps.size) : (a.put (some s) v).tmps.getD s undef = v := by simp [Act.put, hs]
theorem put_get_ne (a : Act) {d : Option Tmp} {s : Tmp} (v : Value) (h : d ≠ some s) : (a.put d v).tmps.getD s undef = a.tmps.getD s undef := by
  cases d with
  | none => rfl
  | some x =>
    have hne : x ≠ s := fun e => h (by rw [e])
    simp only [Act.put]
    rw [Array.getD_eq_getD_getElem?, Array.getD_eq_getD_getElem?, Array.getElem?_setIfInBounds_ne hne]
theorem puts_get {a : Act} {s : Tmp} (hs : s < a.tmps.size) {p : Pd} (hd : p.d = some s) : ∀ {E : List Pd}, p ∈ E → (∀ q ∈ E, q ≠ p → q.d ≠ some s) → (puts a E).tmps.getD s undef = p.rv
  | q :: E, hp, h => by
    simp only [puts]
    by_cases hq : q = p
    · subst hq
      rw [hd]
      exact put_get _ _ (by rw [puts_size]; exact hs)
    · rw [put_get_ne _ _ (h q (List.mem_cons_self ..) hq)]
      exact puts_get hs hd ((List.mem_cons.1 hp).resolve_left fun e => hq e.symm) fun r hr => h r (List.mem_cons_of_mem _ hr)
end
end Go.Dx
