/- The evaluator, part 11. -/
import Derived.Test.YtfdplefijefeiaaGreatDoorZ10
import Derived.Deep.RegionHeld3
/- D: regions that draw. -/
namespace Go.Dx
open Go

def pureD : DOp → Bool
  | .mov _ | .pick .. | .bin .. | .un .. | .convInt .. | .movStr _ | .mkIface .. | .mkFunc .. | .fieldAddr .. | .field .. | .indexAddrA .. | .indexAddrS .. | .indexStr .. | .indexArr .. | .sliceStr .. | .sliceSl .. | .sliceArr ..
  | .extract .. | .lenStr _ | .lenSl _ | .lenArr _ | .capSl _ | .minmax .. | .eqv .. | .assertC .. | .assertI .. | .nilCheck _ => true
  | _ => false
def readD : DOp → Bool
  | .load1 _ | .loadN .. | .lookup .. | .lenMap _ | .bytesStr _ | .entry _ => true
  | _ => false
theorem pure_const {D : DProg} {t : Fr} {h h2 : DHeap} {op : DOp} (hp : pureD op = true) : opD D t h op = opD D t h2 op := by
  cases op <;> first | (cases hp; done) | rfl

theorem eqS_eq {a b : DV} (h : eqS a b = true) : a = b := by
  cases a <;> cases b <;> simp only [eqS] at h <;> first | (cases h; done) | rfl | (simp at h; simp_all)
theorem eqL_eq {f : DV → DV → Bool} (hf : ∀ a b, f a b = true → a = b) : ∀ {a b : List DV}, eqL f a b = true → a = b
  | [], [], _ => rfl
  | [], _ :: _, h => by simp [eqL] at h
  | _ :: _, [], h => by simp [eqL] at h
  | a :: as, b :: bs, h => by
    simp only [eqL, Bool.and_eq_true] at h
    rw [hf a b h.1, eqL_eq hf h.2]
theorem eqV_eq {f : DV → DV → Bool} (hf : ∀ a b, f a b = true → a = b) {a b : DV} (h : eqV f a b = true) : a = b := by
  unfold eqV at h
  split at h
  · simp only [Bool.and_eq_true] at h
    rw [hf _ _ h.2, Nat.beq_eq.mp h.1]
  · rw [eqL_eq hf h]
  · rw [eqL_eq hf h]
  · exact eqS_eq h
theorem eqDV_eq {a b : DV} (h : eqDV a b = true) : a = b := eqV_eq (fun _ _ => eqV_eq fun _ _ => eqS_eq) h

def Held (D : DProg) (h : DHeap) (held : HeldL) : Prop := ∀ x ∈ held, opD D x.2.1 h x.1 = some (.same x.2.2.1)
theorem heldD_ok {D : DProg} {h : DHeap} : ∀ {held : HeldL}, heldD D h held = true → Held D h held
  | [], _ => fun x hx => by cases hx
  | (o, t, v, ds) :: l, hh => by
    simp only [heldD, Bool.and_eq_true] at hh
    intro x hx
    cases hx with
    | tail _ hx => exact heldD_ok hh.2 x hx
    | head =>
      have h1 := hh.1
      split at h1
      · next u hu => rw [hu, eqDV_eq h1]
      · cases h1
theorem mem_dropD {j : Nat} : ∀ {held : HeldL} {x}, x ∈ dropD j held ↔ x ∈ held ∧ x.2.2.2.contains j = false
  | [], x => by simp [dropD]
  | y :: l, x => by
    simp only [dropD]
    split
    · next hc =>
      rw [mem_dropD, List.mem_cons]
      constructor
      · exact fun ⟨h1, h2⟩ => ⟨.inr h1, h2⟩
      · rintro ⟨rfl | h1, h2⟩
        · rw [hc] at h2; cases h2
        · exact ⟨h1, h2⟩
    · next hc =>
      rw [List.mem_cons, mem_dropD, List.mem_cons]
      constructor
      · rintro (rfl | ⟨h1, h2⟩)
        · exact ⟨.inl rfl, by simpa using hc⟩
        · exact ⟨.inr h1, h2⟩
      · rintro ⟨rfl | h1, h2⟩
        · exact .inl rfl
        · exact .inr ⟨h1, h2⟩

/-- an operation that makes a new object and looks at nothing -/
def lateO (o : Oper) : Bool :=
  match o.op with
  | .alloc _ => true
  | .makeMap _ none => true
  | _ => false

/-- those that wait for an operation -/
def waitStep (ops : Array Oper) (i : Nat) (acc : List Nat) (m : Nat) : List Nat :=
  match ops[m]? with
  | some o => if o.after.any (fun e => Region.binds .any e && (e.on == i || acc.contains e.on)) then m :: acc else acc
  | none => acc
def waitL (ops : Array Oper) (i : Nat) : List Nat := (List.range ops.size).foldl (waitStep ops i) []
theorem waitL_ok {ops : Array Oper} {L : Array Bool} (hcl : Closed .any ops L) (i : Nat) : ∀ m ∈ waitL ops i, L.getD m false = true → L.getD i false = true := by
  have key : ∀ (l acc : List Nat), (∀ m ∈ acc, L.getD m false = true → L.getD i false = true) → ∀ m ∈ l.foldl (waitStep ops i) acc, L.getD m false = true → L.getD i false = true := by
    intro l
    induction l with
    | nil => exact fun acc h => h
    | cons x l ih =>
      intro acc h
      refine ih _ fun m hm hl => ?_
      unfold waitStep at hm
      split at hm
      · next o ho =>
        split at hm
        · next hany =>
          rcases List.mem_cons.1 hm with rfl | hm
          · obtain ⟨e, he, hb⟩ := Array.any_eq_true'.1 hany
            simp only [Bool.and_eq_true, Bool.or_eq_true, beq_iff_eq] at hb
            have hon := hcl m o ho hl e he hb.1
            rcases hb.2 with h1 | h1
            · rwa [h1] at hon
            · exact h _ (by simpa using h1) hon
          · exact h m hm hl
        · exact h m hm hl
      · exact h m hm hl
  exact key _ [] (fun m hm => by cases hm)

/-- no two write the same slot -/
def nd : List Oper → Bool
  | [] => true
  | o :: os => (match o.dst with | none => true | some d => os.all fun p => p.dst != some d) && nd os
theorem nd_lt : ∀ {l : List Oper} {i j : Nat} {oi oj : Oper}, nd l = true → l[i]? = some oi → l[j]? = some oj → i < j → ∀ d, oi.dst = some d → oj.dst ≠ some d
  | [], i, j, oi, oj, _, hi, _, _ => by simp at hi
  | o :: os, i, j, oi, oj, h, hi, hj, hlt => by
    simp only [nd, Bool.and_eq_true] at h
    obtain ⟨j', rfl⟩ : ∃ j', j = j' + 1 := ⟨j - 1, by omega⟩
    rw [List.getElem?_cons_succ] at hj
    cases i with
    | zero =>
      simp only [List.getElem?_cons_zero, Option.some.injEq] at hi
      subst hi
      intro d hd
      have h1 := h.1
      rw [hd] at h1
      have := List.all_eq_true.1 h1 oj (List.mem_of_getElem? hj)
      simpa using this
    | succ i =>
      rw [List.getElem?_cons_succ] at hi
      exact nd_lt h.2 hi hj (by omega)
theorem nd_ne {ops : Array Oper} (h : nd ops.toList = true) {i j : Nat} {oi oj : Oper} (hi : ops[i]? = some oi) (hj : ops[j]? = some oj) (hne : i ≠ j) (d : Tmp) (hd : oi.dst = some d) : oj.dst ≠ some d := by
  have hi' : ops.toList[i]? = some oi := by simpa using hi
  have hj' : ops.toList[j]? = some oj := by simpa using hj
  rcases Nat.lt_or_ge i j with hlt | hge
  · exact nd_lt h hi' hj' hlt d hd
  · exact fun he => nd_lt h hj' hi' (by omega) d he hd

/-- an operation apart from all those that don't wait for it, and for which it doesn't wait -/
def freeW (ops : Array Oper) (listed : Array Bool) (i : Nat) : Bool :=
  match ops[i]? with
  | none => false
  | some oi => (List.range ops.size).all fun j => j == i || listed.getD j true || match ops[j]? with
      | some oj => oj.after.any (fun e => Region.binds .any e && e.on == i) || oi.after.any (fun e => Region.binds .any e && e.on == j) || oi.apart ops oj
      | none => true
theorem freeW_spec {ops : Array Oper} {listed : Array Bool} {i j : Nat} {oi oj : Oper} (h : freeW ops listed i = true) (hi : ops[i]? = some oi) (hj : ops[j]? = some oj) (hne : j ≠ i) (hun : listed.getD j true = false)
    (h1 : ∀ e ∈ oj.after, Region.binds .any e = true → e.on ≠ i) (h2 : ∀ e ∈ oi.after, Region.binds .any e = true → e.on ≠ j) : oi.apart ops oj = true := by
  simp only [freeW, hi, List.all_eq_true, List.mem_range] at h
  have h3 := h j (Array.getElem?_eq_some_iff.1 hj).1
  simp only [hj, Bool.or_eq_true, beq_iff_eq, hne, false_or, hun, Bool.false_eq_true] at h3
  rcases h3 with (h3 | h3) | h3
  · obtain ⟨e, he, hb⟩ := Array.any_eq_true'.1 h3
    simp only [Bool.and_eq_true, beq_iff_eq] at hb
    exact absurd hb.2 (h1 e he hb.1)
  · obtain ⟨e, he, hb⟩ := Array.any_eq_true'.1 h3
    simp only [Bool.and_eq_true, beq_iff_eq] at hb
    exact absurd hb.2 (h2 e he hb.1)
  · exact h3
theorem getD_set_true' {listed : Array Bool} {i j : Nat} (h : listed.getD j true = true) : (listed.setIfInBounds i true).getD j true = true := by
  by_cases hij : i = j
  · subst hij
    by_cases hlt : i < listed.size
    · simp [hlt]
    · simp [hlt]
  · rw [getD_set_ne true hij]; exact h
theorem getD_set_false {listed : Array Bool} {i j : Nat} (h : (listed.setIfInBounds i true).getD j true = false) : listed.getD j true = false ∧ i ≠ j := by
  have hne : i ≠ j := fun hij => by
    subst hij
    by_cases hlt : i < listed.size
    · simp [hlt] at h
    · simp [hlt] at h
  exact ⟨by rw [getD_set_ne true hne] at h; exact h, hne⟩
theorem freeW_set {ops : Array Oper} {listed : Array Bool} {i k : Nat} (h : freeW ops listed i = true) : freeW ops (listed.setIfInBounds k true) i = true := by
  unfold freeW at h ⊢
  split at h
  · cases h
  · next oi hi =>
    simp only [List.all_eq_true] at h ⊢
    intro j hj
    have h1 := h j hj
    simp only [Bool.or_eq_true] at h1 ⊢
    rcases h1 with (h1 | h1) | h1
    · exact .inl (.inl h1)
    · exact .inl (.inr (getD_set_true' h1))
    · exact .inr h1

def isLate (P : Program) (n : Nat) (ops : Array Oper) (i : Nat) : Bool := match ops[i]? with
  | some o => lateO o && match operN P n ops o with | some d => d.guard.isNone | none => false
  | none => false
def loud (P : Program) (n : Nat) (ops : Array Oper) (i : Nat) : Bool := match ops[i]? with
  | some o => match operN P n ops o with | some d => !(pureD d.op || readD d.op || lateO o) | none => false
  | none => false
def edgesOn (o : Oper) (q : Nat) : Bool := o.after.any (fun e => Region.binds .any e && e.on == q) && o.after.all fun e => !Region.binds .any e || e.on == q
/-- an address in an object that may come up at any time -/
def faO (P : Program) (n : Nat) (ops : Array Oper) (o : Oper) : Bool :=
  match o.op with
  | .fieldAddr _ (.tmp s) _ => (List.range ops.size).any fun q => edgesOn o q && isLate P n ops q && (match ops[q]? with | some oq => (match oq.op with | .alloc _ => true | _ => false) && oq.dst == some s | none => false)
  | _ => false
/-- an operation that may come up ahead of its turn -/
def pend (P : Program) (n : Nat) (ops : Array Oper) (listed : Array Bool) (i : Nat) : Bool :=
  match ops[i]? with
  | some o => (lateO o || faO P n ops o) && (match operN P n ops o with | some d => d.guard.isNone | none => false) && freeW ops listed i
  | none => false
theorem pend_set {P : Program} {n : Nat} {ops : Array Oper} {listed : Array Bool} {i k : Nat} (h : pend P n ops listed i = true) : pend P n ops (listed.setIfInBounds k true) i = true := by
  unfold pend at h ⊢
  split at h
  · simp only [Bool.and_eq_true] at h ⊢
    exact ⟨h.1, freeW_set h.2⟩
  · cases h
theorem isLate_parts {P : Program} {n : Nat} {ops : Array Oper} {i : Nat} (h : isLate P n ops i = true) : ∃ o d, ops[i]? = some o ∧ operN P n ops o = some d ∧ d.guard = none ∧ lateO o = true := by
  unfold isLate at h
  split at h
  · next o ho =>
    simp only [Bool.and_eq_true] at h
    have h2 := h.2
    split at h2
    · next d hd => exact ⟨o, d, ho, hd, by simpa using h2, h.1⟩
    · cases h2
  · cases h
/-- an address in a new object -/
def FaOk (P : Program) (n : Nat) (ops : Array Oper) (o : Oper) (s q : Nat) : Prop :=
  (∃ T f, o.op = .fieldAddr T (.tmp s) f) ∧ edgesOn o q = true ∧ isLate P n ops q = true ∧ ∃ oq T, ops[q]? = some oq ∧ oq.op = .alloc T ∧ oq.dst = some s
theorem pend_parts {P : Program} {n : Nat} {ops : Array Oper} {listed : Array Bool} {i : Nat} (h : pend P n ops listed i = true) : ∃ o d, ops[i]? = some o ∧ operN P n ops o = some d ∧ d.guard = none ∧ freeW ops listed i = true ∧
    (lateO o = true ∨ ∃ s q, FaOk P n ops o s q) := by
  unfold pend at h
  split at h
  · next o ho =>
    simp only [Bool.and_eq_true, Bool.or_eq_true] at h
    obtain ⟨⟨h1, h2⟩, h3⟩ := h
    split at h2
    · next d hd =>
      refine ⟨o, d, ho, hd, by simpa using h2, h3, h1.imp id fun hfa => ?_⟩
      unfold faO at hfa
      split at hfa
      · next T s f hop =>
        obtain ⟨q, _, hq⟩ := List.any_eq_true.1 hfa
        simp only [Bool.and_eq_true] at hq
        obtain ⟨⟨h4, h5⟩, h6⟩ := hq
        split at h6
        · next oq hoq =>
          simp only [Bool.and_eq_true, beq_iff_eq] at h6
          obtain ⟨h6, h7⟩ := h6
          split at h6
          · next T' hT' => exact ⟨s, q, ⟨T, f, hop⟩, h4, h5, oq, T', hoq, hT', h7⟩
          · cases h6
        · cases h6
      · cases hfa
    · cases h2
  · cases h

def closeP (P : Program) (n : Nat) (ops : Array Oper) (L : Array Bool) (skip : Nat) : Nat → Array Bool → Array Bool
  | 0, R => R
  | f + 1, R => match (Region.ready .any ops R).find? (fun m => m != skip && pend P n ops L m) with
    | some m => closeP P n ops L skip f (R.setIfInBounds m true)
    | none => R
def takeable (P : Program) (n : Nat) (ops : Array Oper) (listed : Array Bool) (i : Nat) : Bool :=
  match (ops[i]?).bind (operN P n ops) with
  | some d => (pureD d.op || readD d.op) && Region.free .any ops listed i
  | none => false
def kindOfD (P : Program) (n : Nat) (ops : Array Oper) (i : Nat) (d : DOp) : SK := match pureD d with | true => .pure | false => .read ((waitL ops i).filter (loud P n ops))
/-- the schedule of a region that draws -/
def schedC (P : Program) (n : Nat) (ops : Array Oper) : Nat → Array Bool → Option (List (DOper × SK))
  | 0, listed => match Region.ready .any ops listed with | [] => some [] | _ => none
  | k + 1, listed => match Region.ready .any ops listed with
    | [] => some []
    | r :: rs =>
      match (r :: rs).find? (takeable P n ops listed) with
      | some i => ((ops[i]?).bind (operN P n ops)).bind fun d => (schedC P n ops k (listed.setIfInBounds i true)).map fun l => (d, kindOfD P n ops i d.op) :: l
      | none =>
        match (r :: rs).find? (fun q => !pend P n ops listed q && (Region.ready .any ops (closeP P n ops listed ops.size ops.size listed) == [q])) with
        | some q => ((ops[q]?).bind (operN P n ops)).bind fun d => (schedC P n ops k (listed.setIfInBounds q true)).map fun l => (d, .alone q) :: l
        | none => match (r :: rs).find? (fun i => isLate P n ops i && pend P n ops listed i && (Region.ready .any ops (closeP P n ops listed i ops.size listed) == [i])) with
          | some i => ((ops[i]?).bind (operN P n ops)).bind fun d => (schedC P n ops k (listed.setIfInBounds i true)).map fun l => (d, .late) :: l
          | none => none
def drawC (P : Program) (n : Nat) (ops : Array Oper) : Option (List (DOper × SK)) :=
  if Region.noSelect ops && nd ops.toList then schedC P n ops ops.size (Array.replicate ops.size false) else none
end Go.Dx
/- D: operations that came up ahead of their turn. -/
namespace Go.Dx
open Go

structure Pd where
  i : Nat
  d : Option Tmp
  rv : Value
  B : Nat
def puts (a : Act) : List Pd → Act
  | [] => a
  | p :: E => (puts a E).put p.d p.rv
def lists (L : Array Bool) : List Pd → Array Bool
  | [] => L
  | p :: E => (lists L E).setIfInBounds p.i true

theorem set_comm (L : Array Bool) (i j : Nat) : (L.setIfInBounds i true).setIfInBounds j true = (L.setIfInBounds j true).setIfInBounds i true := by
  by_cases h : i = j
  · rw [h]
  · exact Array.setIfInBounds_comm _ _ h
theorem lists_set (L : Array Bool) (i : Nat) : ∀ E, lists (L.setIfInBounds i true) E = (lists L E).setIfInBounds i true
  | [] => rfl
  | p :: E => by simp only [lists]; rw [lists_set L i E, set_comm]
theorem lists_remove (L : Array Bool) (p : Pd) (E2 : List Pd) : ∀ E1, lists (L.setIfInBounds p.i true) (E1 ++ E2) = lists L (E1 ++ p :: E2)
  | [] => by simp only [List.nil_append, lists]; exact lists_set L p.i E2
  | q :: E1 => by simp only [List.cons_append, lists]; rw [lists_remove L p E2 E1]
theorem lists_size (L : Array Bool) : ∀ E, (lists L E).size = L.size
  | [] => rfl
  | p :: E => by simp only [lists, Array.size_setIfInBounds]; exact lists_size L E
theorem puts_defers (a : Act) : ∀ E, (puts a E).defers = a.defers
  | [] => rfl
  | p :: E => by simp only [puts]; rw [← puts_defers a E]; cases p.d <;> rfl
theorem puts_size (a : Act) : ∀ E, (puts a E).tmps.size = a.tmps.size
  | [] => rfl
  | p :: E => by simp only [puts]; rw [← puts_size a E]; cases p.d <;> simp [Act.put]
theorem puts_put (a : Act) (d : Option Tmp) (v : Value) : ∀ E : List Pd, (∀ p ∈ E, ∀ x, d = some x → p.d ≠ some x) → puts (a.put d v) E = (puts a E).put d v
  | [], _ => rfl
  | p :: E, h => by
    simp only [puts]
    rw [puts_put a d v E fun q hq => h q (List.mem_cons_of_mem _ hq)]
    exact Act.put_comm _ v p.rv (h p (List.mem_cons_self ..))
theorem puts_remove (a : Act) (p : Pd) (E2 : List Pd) (h : ∀ q ∈ E2, ∀ x, p.d = some x → q.d ≠ some x) : ∀ E1, puts (a.put p.d p.rv) (E1 ++ E2) = puts a (E1 ++ p :: E2)
  | [] => puts_put a p.d p.rv E2 h
  | q :: E1 => by simp only [List.cons_append, puts]; rw [puts_remove a p E2 h E1]

theorem lists_false {L : Array Bool} {j : Nat} : ∀ {E : List Pd}, (lists L E).getD j true = false → L.getD j true = false ∧ ∀ p ∈ E, p.i ≠ j
  | [], h => ⟨h, fun p hp => by cases hp⟩
  | p :: E, h => by
    obtain ⟨h1, h2⟩ := getD_set_false h
    obtain ⟨h3, h4⟩ := lists_false h1
    refine ⟨h3, fun q hq => ?_⟩
    rcases List.mem_cons.1 hq with rfl | hq
    · exact h2
    · exact h4 q hq
theorem lists_keep {L : Array Bool} {j : Nat} (h : L.getD j false = true) : ∀ E : List Pd, (lists L E).getD j false = true
  | [] => h
  | _ :: E => getD_set_true (lists_keep h E)
/-- listed only because it came up ahead -/
theorem lists_true {L : Array Bool} {j : Nat} : ∀ {E : List Pd}, (lists L E).getD j false = true → L.getD j false = true ∨ ∃ p ∈ E, p.i = j
  | [], h => .inl h
  | p :: E, h => by
    by_cases hj : p.i = j
    · exact .inr ⟨p, List.mem_cons_self .., hj⟩
    · rw [lists, getD_set_ne false hj] at h
      exact (lists_true h).imp id fun ⟨q, hq, hh⟩ => ⟨q, List.mem_cons_of_mem _ hq, hh⟩
theorem ready_lists {ops : Array Oper} {L : Array Bool} {j : Nat} (h : j ∈ Region.ready .any ops L) : ∀ {E : List Pd}, (∀ p ∈ E, p.i ≠ j) → j ∈ Region.ready .any ops (lists L E)
  | [], _ => h
  | p :: E, hE => ready_mono (ready_lists h fun q hq => hE q (List.mem_cons_of_mem _ hq)) (Ne.symm (hE p (List.mem_cons_self ..)))

def EOk (ops : Array Oper) (L : Array Bool) : List Pd → Prop
  | [] => True
  | p :: E => p.i ∈ Region.ready .any ops (lists L E) ∧ EOk ops L E
section
variable {ops : Array Oper} {L : Array Bool}
theorem EOk.unl : ∀ {E : List Pd}, EOk ops L E → ∀ p ∈ E, L.getD p.i true = false
  | q :: E, h, p, hp => by
    rcases List.mem_cons.1 hp with rfl | hp
    · exact (lists_false (mem_ready.1 h.1).1).1
    · exact EOk.unl h.2 p hp
theorem EOk.head_ne {p : Pd} {E : List Pd} (h : EOk ops L (p :: E)) : ∀ q ∈ E, q.i ≠ p.i := (lists_false (mem_ready.1 h.1).1).2
theorem EOk.mid_ne {p : Pd} {E2 : List Pd} : ∀ {E1 : List Pd}, EOk ops L (E1 ++ p :: E2) → ∀ q ∈ E1 ++ E2, q.i ≠ p.i
  | [], h => EOk.head_ne h
  | r :: E1, h => fun q hq => by
    rcases List.mem_cons.1 hq with rfl | hq
    · exact fun e => EOk.head_ne h p (by simp) e.symm
    · exact EOk.mid_ne h.2 q hq
theorem EOk.set {i : Nat} : ∀ {E : List Pd}, EOk ops L E → (∀ p ∈ E, p.i ≠ i) → EOk ops (L.setIfInBounds i true) E
  | [], _, _ => trivial
  | p :: E, h, hi => ⟨by rw [lists_set]; exact ready_mono h.1 (hi p (List.mem_cons_self ..)), EOk.set h.2 fun q hq => hi q (List.mem_cons_of_mem _ hq)⟩
theorem EOk.remove {p : Pd} {E2 : List Pd} : ∀ {E1 : List Pd}, EOk ops L (E1 ++ p :: E2) → EOk ops (L.setIfInBounds p.i true) (E1 ++ E2)
  | [], h => EOk.set h.2 (EOk.head_ne h)
  | q :: E1, h => ⟨by have := h.1; show q.i ∈ Region.ready .any ops (lists (L.setIfInBounds p.i true) (E1 ++ E2)); rw [lists_remove]; exact this, EOk.remove h.2⟩
theorem EOk.closed (hc : Closed .any ops L) : ∀ {E : List Pd}, EOk ops L E → Closed .any ops (lists L E)
  | [], _ => hc
  | _ :: _, h => (EOk.closed hc h.2).set h.1
theorem EOk.nil (hr : Region.ready .any ops L = []) : ∀ {E : List Pd}, EOk ops L E → E = []
  | [], _ => rfl
  | p :: E, h => by
    have := EOk.nil hr h.2
    subst this
    have := h.1
    simp only [lists] at this
    rw [hr] at this
    cases this
/-- what it waits for has come up -/
theorem EOk.waits {E : List Pd} (hc : Closed .any ops L) (hE : EOk ops L E) (hs : L.size = ops.size) {p : Pd} (hp : p ∈ E) {o : Oper} (ho : ops[p.i]? = some o) : ∀ e ∈ o.after, Region.binds .any e = true → (lists L E).getD e.on false = true := by
  refine hE.closed hc p.i o ho ?_
  have hlt : p.i < L.size := by rw [hs]; exact (Array.getElem?_eq_some_iff.1 ho).1
  have : ∀ {E : List Pd}, p ∈ E → (lists L E).getD p.i false = true := by
    intro E
    induction E with
    | nil => exact fun h => by cases h
    | cons q E ih =>
      intro h
      rcases List.mem_cons.1 h with rfl | h
      · simp only [lists]
        have : p.i < (lists L E).size := by rw [lists_size]; exact hlt
        simp [this]
      · exact getD_set_true (ih h)
  exact this hp
end

/-- how many have not come up -/
def cnt (ops : Array Oper) (L : Array Bool) : Nat := ((List.range ops.size).filter fun i => !L.getD i true).length
theorem filter_lt {α : Type} (f g : α → Bool) (hfg : ∀ x, g x = true → f x = true) : ∀ {l : List α} {x : α}, x ∈ l → f x = true → g x = false → (l.filter g).length < (l.filter f).length
  | y :: l, x, hx, h1, h2 => by
    have hle : ∀ l : List α, (l.filter g).length ≤ (l.filter f).length := fun l => by
      induction l with
      | nil => simp
      | cons z l ih =>
        simp only [List.filter_cons]
        by_cases hg : g z = true
        · rw [if_pos hg, if_pos (hfg z hg)]; simp; exact ih
        · rw [if_neg hg]
          split
          · simp; omega
          · exact ih
    rcases List.mem_cons.1 hx with rfl | hx
    · simp only [List.filter_cons]
      rw [if_pos h1, if_neg (by simp [h2])]
      have := hle l
      simp; omega
    · have ih := filter_lt f g hfg hx h1 h2
      simp only [List.filter_cons]
      by_cases hg : g y = true
      · rw [if_pos hg, if_pos (hfg y hg)]; simp; omega
      · rw [if_neg hg]
        split
        · simp; omega
        · exact ih
theorem cnt_set {ops : Array Oper} {L : Array Bool} {i : Nat} (h : i ∈ Region.ready .any ops L) : cnt ops (L.setIfInBounds i true) < cnt ops L := by
  obtain ⟨h0, o, ho, _⟩ := mem_ready.1 h
  refine filter_lt _ _ (fun j hj => ?_) (x := i) (List.mem_range.2 (Array.getElem?_eq_some_iff.1 ho).1) (by rw [h0]; rfl) ?_
  · have := getD_set_false (by simpa using hj)
    simpa using this.1
  · cases hh : (L.setIfInBounds i true).getD i true with
    | true => rfl
    | false => exact ((getD_set_false hh).2 rfl).elim
theorem cnt_pos {ops : Array Oper} {L : Array Bool} {i : Nat} (h : i ∈ Region.ready .any ops L) : 0 < cnt ops L := Nat.lt_of_le_of_lt (Nat.zero_le _) (cnt_set h)

section
variable {P : Program} {n : Nat} {ops : Array Oper} {L : Array Bool} {skip : Nat}
theorem closeP_size : ∀ (f : Nat) (R : Array Bool), (closeP P n ops L skip f R).size = R.size
  | 0, R => rfl
  | f + 1, R => by
    simp only [closeP]
    split
    · rw [closeP_size f]; simp
    · rfl
theorem closeP_keep {j : Nat} : ∀ (f : Nat) (R : Array Bool), R.getD j false = true → (closeP P n ops L skip f R).getD j false = true
  | 0, R, h => h
  | f + 1, R, h => by
    simp only [closeP]
    split
    · exact closeP_keep f _ (getD_set_true h)
    · exact h
theorem closeP_mem {j : Nat} : ∀ (f : Nat) (R : Array Bool), (closeP P n ops L skip f R).getD j false = true → R.getD j false = true ∨ (j ≠ skip ∧ pend P n ops L j = true)
  | 0, R, h => .inl h
  | f + 1, R, h => by
    simp only [closeP] at h
    split at h
    · next m hm =>
      rcases closeP_mem f _ h with h1 | h1
      · by_cases hj : m = j
        · subst hj
          have := List.find?_some hm
          simp only [Bool.and_eq_true, bne_iff_ne] at this
          exact .inr this
        · rw [getD_set_ne false hj] at h1; exact .inl h1
      · exact .inr h1
    · exact .inl h
theorem getD_both {R : Array Bool} {j : Nat} (hj : j < R.size) : R.getD j true = R.getD j false := by simp [hj]
theorem ready_sub {X R : Array Bool} (hX : X.size = ops.size) (hR : R.size = ops.size) (hsub : ∀ j, X.getD j false = true → R.getD j false = true) {j : Nat} (h : j ∈ Region.ready .any ops X) : R.getD j false = true ∨ j ∈ Region.ready .any ops R := by
  obtain ⟨h0, o, ho, hall⟩ := mem_ready.1 h
  have hj : j < R.size := by rw [hR]; exact (Array.getElem?_eq_some_iff.1 ho).1
  cases hh : R.getD j false with
  | true => exact .inl rfl
  | false => exact .inr (mem_ready.2 ⟨by rw [getD_both hj]; exact hh, o, ho, fun e he hb => hsub _ (hall e he hb)⟩)
/-- all that came up ahead lie in the closure -/
theorem closeP_all {f : Nat} {R : Array Bool} (hR : closeP P n ops L skip f L = R) (hs : L.size = ops.size) (hrd : ∀ m ∈ Region.ready .any ops R, m = skip ∨ pend P n ops L m = false) :
    ∀ {E : List Pd}, EOk ops L E → (∀ p ∈ E, p.i ≠ skip ∧ pend P n ops L p.i = true) → ∀ j, (lists L E).getD j false = true → R.getD j false = true
  | [], _, _, j, h => by rw [← hR]; exact closeP_keep f L h
  | p :: E, hE, hp, j, h => by
    have ih := closeP_all hR hs hrd hE.2 fun q hq => hp q (List.mem_cons_of_mem _ hq)
    by_cases hj : p.i = j
    · subst hj
      have hRs : R.size = ops.size := by rw [← hR, closeP_size, hs]
      rcases ready_sub (by rw [lists_size, hs]) hRs ih hE.1 with h1 | h1
      · exact h1
      · obtain ⟨h2, h3⟩ := hp p (List.mem_cons_self ..)
        rcases hrd _ h1 with h4 | h4
        · exact (h2 h4).elim
        · rw [h3] at h4; cases h4
    · simp only [lists] at h
      rw [getD_set_ne false hj] at h
      exact ih j h
/-- whoever may come up is pending, or the one that is left -/
theorem closeP_ready {f q : Nat} {R : Array Bool} (hR : closeP P n ops L skip f L = R) (hs : L.size = ops.size) (hq : Region.ready .any ops R = [q]) (hrd : q = skip ∨ pend P n ops L q = false)
    {E : List Pd} (hE : EOk ops L E) (hp : ∀ p ∈ E, p.i ≠ skip ∧ pend P n ops L p.i = true) {m : Nat} (hm : m ∈ Region.ready .any ops (lists L E)) : m = q ∨ pend P n ops L m = true := by
  have hrd' : ∀ m ∈ Region.ready .any ops R, m = skip ∨ pend P n ops L m = false := fun m hm => by
    rw [hq] at hm
    obtain rfl : m = q := by simpa using hm
    exact hrd
  have hRs : R.size = ops.size := by rw [← hR, closeP_size, hs]
  rcases ready_sub (by rw [lists_size, hs]) hRs (closeP_all hR hs hrd' hE hp) hm with h1 | h1
  · rw [← hR] at h1
    rcases closeP_mem f L h1 with h2 | h2
    · have h3 := (lists_false (mem_ready.1 hm).1).1
      have hlt : m < L.size := by
        obtain ⟨_, o, ho, _⟩ := mem_ready.1 hm
        rw [hs]; exact (Array.getElem?_eq_some_iff.1 ho).1
      rw [getD_both hlt, h2] at h3
      cases h3
    · exact .inr h2.2
  · rw [hq] at h1
    exact .inl (by simpa using h1)
end

/-! ### One operation beside those that came up ahead -/
section
variable {P : Program} {ops : Array Oper} {Q : Exit → Act → World → Prop}
theorem wpOp_putR {j : Nat} {oj : Oper} {d : Option Tmp} {v : Value} (hj : ops[j]? = some oj) (hsj : ∀ cs b, oj.op ≠ .select cs b)
    (h1 : ∀ x, d = some x → x ∉ oj.looksAt ops) (h2 : ∀ x, d = some x → oj.dst ≠ some x) (hQ : ∀ c a w, ¬ Q (.panic c) a w) {K : Act → World → Prop} {a : Act} {w : World}
    (h : wpOp P ops Q j K a w) : wpOp P ops Q j (fun a'' w' => ∃ a', a'' = a'.put d v ∧ K a' w') (a.put d v) w := by
  unfold wpOp at *
  simp only [hj] at *
  rw [wanted_put oj a d v h1]
  split
  · rename_i hw
    simp only [hw, if_true] at h
    rcases h with h | ⟨hasks, hlets⟩
    case inr => exact .inr ⟨by unfold Oper.asks at *; rw [execOp_put oj hsj a d v h1]; exact hasks, hlets⟩
    refine .inl ?_
    unfold Oper.wp at *
    rw [execOp_put oj hsj a d v h1]
    generalize (execOp a.eval oj).run P w = r at *
    cases r with
    | ok nx w' =>
      cases nx <;> simp only [Oper.upon] at h ⊢
      case value u => exact ⟨_, Act.put_comm a v u h2, h⟩
      case skip => exact ⟨_, Act.put_comm a v undef h2, h⟩
      case defer f => exact ⟨_, by rw [Act.put_defers]; exact Act.put_comm _ v undef h2, h⟩
      case enter f args =>
        refine Calls.mono h fun e w'' he => ?_
        cases e with
        | returned u => exact ⟨_, Act.put_comm a v u h2, he⟩
        | panicked c => exact (hQ _ _ _ he).elim
        | outgrown => exact he
      case row row args => exact Rows.mono h fun u w'' he => ⟨_, Act.put_comm a v u h2, he⟩
    | halt x w' =>
      cases x <;> simp only [Oper.upon] at h ⊢
      case panic u => exact (hQ _ _ _ h).elim
  · rename_i hw
    simp only [hw] at h
    exact ⟨_, Act.put_comm a v undef h2, h⟩
theorem wpOp_puts {j : Nat} {oj : Oper} (hj : ops[j]? = some oj) (hsj : ∀ cs b, oj.op ≠ .select cs b) (hQ : ∀ c a w, ¬ Q (.panic c) a w) {K : Act → World → Prop} {a : Act} {w : World}
    (h : wpOp P ops Q j K a w) : ∀ {E : List Pd}, (∀ p ∈ E, (∀ x, p.d = some x → x ∉ oj.looksAt ops) ∧ ∀ x, p.d = some x → oj.dst ≠ some x) → wpOp P ops Q j (fun a'' w' => ∃ a', a'' = puts a' E ∧ K a' w') (puts a E) w
  | [], _ => wpOp_mono (fun a' w' h' => ⟨a', rfl, h'⟩) h
  | p :: E, hE => by
    have ih := wpOp_puts hj hsj hQ h fun q hq => hE q (List.mem_cons_of_mem _ hq)
    obtain ⟨h1, h2⟩ := hE p (List.mem_cons_self ..)
    exact wpOp_mono (fun a'' w' ⟨a1, e1, a2, e2, hk⟩ => ⟨a2, by rw [e1, e2]; rfl, hk⟩) (wpOp_putR hj hsj h1 h2 hQ ih)
theorem execOp_puts (o : Oper) (hs : ∀ cs b, o.op ≠ .select cs b) (a : Act) : ∀ {E : List Pd}, (∀ p ∈ E, ∀ x, p.d = some x → x ∉ o.looksAt ops) → execOp (puts a E).eval o = execOp a.eval o
  | [], _ => rfl
  | p :: E, h => (execOp_put o hs _ p.d p.rv (h p (List.mem_cons_self ..))).trans (execOp_puts o hs a fun q hq => h q (List.mem_cons_of_mem _ hq))
theorem wanted_puts (o : Oper) (a : Act) : ∀ {E : List Pd}, (∀ p ∈ E, ∀ x, p.d = some x → x ∉ o.looksAt ops) → Region.wanted o (yielded ops (puts a E).tmps) = Region.wanted o (yielded ops a.tmps)
  | [], _ => rfl
  | p :: E, h => (wanted_put o _ p.d p.rv (h p (List.mem_cons_self ..))).trans (wanted_puts o a fun q hq => h q (List.mem_cons_of_mem _ hq))
theorem put_get (a : Act) {s : Tmp} (v : Value) (hs : s < a.tmps.size) : (a.put (some s) v).tmps.getD s undef = v := by simp [Act.put, hs]
theorem put_get_ne (a : Act) {d : Option Tmp} {s : Tmp} (v : Value) (h : d ≠ some s) : (a.put d v).tmps.getD s undef = a.tmps.getD s undef := by
  cases d with
  | none => rfl
  | some x =>
    have hne : x ≠ s := fun e => h (by rw [e])
    simp only [Act.put]
    rw [Array.getD_eq_getD_getElem?, Array.getD_eq_getD_getElem?, Array.getElem?_setIfInBounds_ne hne]
theorem puts_get {a : Act} {s : Tmp} (hs : s < a.tmps.size) {p : Pd} (hd : p.d = some s) : ∀ {E : List Pd}, p ∈ E → (∀ q ∈ E, q ≠ p → q.d ≠ some s) → (puts a E).tmps.getD s undef = p.rv
  | q :: E, hp, h => by
    simp only [puts]
    by_cases hq : q = p
    · subst hq
      rw [hd]
      exact put_get _ _ (by rw [puts_size]; exact hs)
    · rw [put_get_ne _ _ (h q (List.mem_cons_self ..) hq)]
      exact puts_get hs hd ((List.mem_cons.1 hp).resolve_left fun e => hq e.symm) fun r hr => h r (List.mem_cons_of_mem _ hr)
end
end Go.Dx
/- D: REGIONS THAT DRAW ARE SOUND. -/
namespace Go.Dx
open Go
section
variable {P : Program} {ops : Array Oper} {Q : Exit → Act → World → Prop} {md : Region.Mode}

theorem wpAnyS_weaken {S S' : Array Bool → World → Prop} : ∀ {fuel : Nat} {listed : Array Bool} {a : Act} {w : World}, (∀ L w, (∀ j, listed.getD j false = true → L.getD j false = true) → S L w → S' L w) → wpAnyS P md ops Q S fuel listed a w → wpAnyS P md ops Q S' fuel listed a w
  | 0, _, _, _, _, h => h
  | _ + 1, listed, _, _, hs, h => ⟨h.1, fun i hi => wpOp_mono (fun _ _ h' => ⟨hs _ _ (fun j hj => getD_set_true hj) h'.1, wpAnyS_weaken (fun L w hL => hs L w fun j hj => hL j (getD_set_true hj)) h'.2⟩) (h.2 i hi)⟩
theorem wpAnyS_done {S : Array Bool → World → Prop} {listed : Array Bool} {a : Act} {w : World} (hr : Region.ready md ops listed = []) (h : Q .normal a w) : ∀ fuel, wpAnyS P md ops Q S fuel listed a w
  | 0 => ⟨hr, h⟩
  | _ + 1 => ⟨fun _ => h, by rw [hr]; simp⟩

theorem operN_parts {n : Nat} {o : Oper} {d : DOper} (hc : operN P n ops o = some d) : (∀ k, o.dst = some k → k < n) ∧ d.dst = o.dst ∧ opC P o = some d.op ∧
    (match o.guard with | none => some none | some (j, b) => ((ops[j]?).bind (·.dst)).map fun d => some (d, b)) = some d.guard := by
  unfold operN at hc
  split at hc
  · next hdst =>
    obtain ⟨g, op, hgu, hop, rfl⟩ := operC_some hc
    exact ⟨fun k hk => by rw [hk] at hdst; exact Nat.blt_eq.mp (by simpa using hdst), rfl, hop, hgu⟩
  · cases hc
theorem operN_guard {n : Nat} {o : Oper} {d : DOper} (hc : operN P n ops o = some d) (hg : d.guard = none) : o.guard = none := by
  have h := (operN_parts hc).2.2.2
  rw [hg] at h
  split at h
  · next hn => exact hn
  · next j b hn =>
    cases hx : (ops[j]?).bind (·.dst) with
    | none => rw [hx] at h; cases h
    | some x => rw [hx] at h; cases h
theorem wanted_none {o : Oper} (hg : o.guard = none) (tmps : Array Value) : Region.wanted o (yielded ops tmps) = true := by unfold Region.wanted; rw [hg]

/-- a new object: what it yields, and that it may be told of later -/
def LateR (D : DProg) (d : DOp) (rv : Value) (ob : Obj) (B : Nat) : Prop :=
  ∀ (e0 : Env) (h0 : DHeap) (w0 : World) (e : Env) (h : DHeap) (w : World) (t : Fr) (v : DV) (h2 : DHeap), opD D t h d = some (.val v h2) → Step e0 h0 w0 e h w → w.heap[B]? = some ob → B < w.heap.size → w0.heap.size ≤ B → (∀ b x, e b = some x → x.blk ≠ B) →
    ∃ e2, Env.le e e2 ∧ Step e0 h0 w0 e2 h2 w ∧ val e2 v = some rv ∧ ∀ b x, e2 b = some x → e b = some x ∨ x.blk = B
theorem late_cases {o : Oper} {d : DOp} (hl : lateO o = true) (hc : opC P o = some d) : (∃ T z, o.op = .alloc T ∧ zeroT P T = some z ∧ d = .alloc z.cells) ∨ (∃ T, o.op = .makeMap T none ∧ d = .mkMap) := by
  unfold lateO at hl
  split at hl
  · next T ho =>
    unfold opC at hc
    simp only [ho, Option.bind_eq_bind, Option.pure_def] at hc
    obtain ⟨z, hz, hc⟩ := bind_some hc
    cases hc
    exact .inl ⟨T, z, ho, hz, rfl⟩
  · next T ho =>
    unfold opC at hc
    simp only [ho, Option.pure_def] at hc
    cases hc
    exact .inr ⟨T, ho, rfl⟩
  · cases hl
theorem late_quiet {o : Oper} {d : DOp} (hl : lateO o = true) (hc : opC P o = some d) : pureD d = false ∧ readD d = false := by
  rcases late_cases hl hc with ⟨_, _, _, _, rfl⟩ | ⟨_, _, rfl⟩ <;> exact ⟨rfl, rfl⟩
theorem late_ok {o : Oper} {d : DOp} (D : DProg) (hl : lateO o = true) (hc : opC P o = some d) (w : World) :
    ∃ rv ob, (∀ ρ, (execOp ρ o).run P w = .ok (.value rv) (w.alloc ob)) ∧ LateR D d rv ob w.heap.size ∧ ((∃ T, o.op = .alloc T) → rv = .pointer (some ⟨w.heap.size, 0, none⟩)) := by
  rcases late_cases hl hc with ⟨T, z, ho, hz, rfl⟩ | ⟨T, ho, rfl⟩
  · obtain ⟨v, h1, h2⟩ := run_zeroT hz (fun _ => none) w
    refine ⟨.pointer (some ⟨w.heap.size, 0, none⟩), .cells v.cells T (0, 0), fun ρ => ?_, ?_, fun _ => rfl⟩
    · simp [execOp, ho, Instr.alloc, Sem.run_bind, h1, run_newVar]
    · intro e0 h0 w0 e h w2 t v' h2' hop st hB hlt hge hf
      simp only [opD, Option.some.injEq, Nx.val.injEq] at hop
      obtain ⟨rfl, rfl⟩ := hop
      have hv : val e z = some v := by
        obtain ⟨v2, h3, h4⟩ := run_zeroT hz e w
        rw [h1] at h3
        cases h3
        exact h4
      refine ⟨e.add h.next ⟨w.heap.size, 0, 0, 0⟩, Env.le_add (st.rep.new _ (Nat.le_refl _)) _, Step.realize st ⟨w.heap.size, 0, 0, 0⟩ hlt hge hf ?_, add_ptr .., fun b x hx => ?_⟩
      · exact objAt_new (lo := 0) (hi := 0) (more := []) (vals_mono (Env.le_add (st.rep.new _ (Nat.le_refl _)) _) _ _ (cells_val hv)) (by simpa using hB) rfl (by simp) (.inl rfl)
      · unfold Env.add at hx
        split at hx
        · cases hx; exact .inr rfl
        · exact .inl hx
  · refine ⟨.map (some w.heap.size), .map #[] 0, fun ρ => by simp [execOp, ho, Instr.makeMap], ?_, fun ⟨T', hT'⟩ => by rw [ho] at hT'; cases hT'⟩
    intro e0 h0 w0 e h w2 t v' h2' hop st hB hlt hge hf
    simp only [opD, Option.some.injEq, Nx.val.injEq] at hop
    obtain ⟨rfl, rfl⟩ := hop
    refine ⟨e.add h.next ⟨w.heap.size, 0, 0, 1⟩, Env.le_add (st.rep.new _ (Nat.le_refl _)) _, Step.realize st ⟨w.heap.size, 0, 0, 1⟩ hlt hge hf ⟨[], rfl, hB⟩, by simp [val, Env.add], fun b x hx => ?_⟩
    unfold Env.add at hx
    split at hx
    · cases hx; exact .inr rfl
    · exact .inl hx
theorem fa_ok {o : Oper} {d : DOp} {T : TypeId} {s f : Nat} (ho : o.op = .fieldAddr T (.tmp s) f) (hc : opC P o = some d) :
    ∃ off, d = .fieldAddr off (.t s) ∧ ∀ (ρ : Operand → Value) (w : World) (B b : Nat), ρ (.tmp s) = .pointer (some ⟨B, b, none⟩) → (execOp ρ o).run P w = .ok (.value (.pointer (some ⟨B, b + off, none⟩))) w := by
  unfold opC at hc
  simp only [ho, Option.bind_eq_bind, Option.pure_def] at hc
  split at hc
  · next fs hu =>
    obtain ⟨fd, hfd, hc⟩ := bind_some hc; obtain ⟨n, hs, hc⟩ := bind_some hc
    split at hc
    · cases hc
    · next hn0 =>
      simp only [opdD, Option.bind_some, Option.some.injEq] at hc
      subst hc
      refine ⟨_, rfl, fun ρ w B b hρ => ?_⟩
      have hfp : (fieldPlace ⟨B, b, none⟩ fd).run P w = .ok ⟨B, b + fd.offset, none⟩ w := by
        unfold fieldPlace
        simp only [Sem.run_bind, run_sizeT hs, Result.andThen_ok]
        rw [if_neg hn0, Addr.add_mid]
        rfl
      simp [execOp, ho, hρ, Instr.fieldAt, Sem.run_bind, run_underlying hu, hfd, Instr.sureAddr, hfp]
  · cases hc

def SHeld (D : DProg) (e : Env) (held : HeldL) (L : Array Bool) (w : World) : Prop := ∃ e2 h2, Env.le e e2 ∧ Rep e2 h2 w ∧ ∀ x ∈ held, (∀ j ∈ x.2.2.2, L.getD j false = false) → opD D x.2.1 h2 x.1 = some (.same x.2.2.1)
/-- what is let go is let go for those alone that turn something -/
def HeldInv (P : Program) (n : Nat) (ops : Array Oper) (held : HeldL) : Prop := ∀ x ∈ held, ∀ j ∈ x.2.2.2, loud P n ops j = true

/-- what came up ahead of its turn -/
def PdOk (P : Program) (D : DProg) (n : Nat) (ops : Array Oper) (w0 : World) (e : Env) (w : World) (listed : Array Bool) (a : Act) (E : List Pd) (p : Pd) : Prop :=
  ∃ o d, ops[p.i]? = some o ∧ operN P n ops o = some d ∧ p.d = o.dst ∧ d.guard = none ∧ freeW ops listed p.i = true ∧ pend P n ops listed p.i = true ∧
   ((lateO o = true ∧ ∃ ob, LateR D d.op p.rv ob p.B ∧ w.heap[p.B]? = some ob ∧ p.B < w.heap.size ∧ w0.heap.size ≤ p.B ∧ (∀ b x, e b = some x → x.blk ≠ p.B) ∧ (∀ p' ∈ E, isLate P n ops p'.i = true → p'.B = p.B → p'.i = p.i) ∧ ((∃ T, o.op = .alloc T) → p.rv = .pointer (some ⟨p.B, 0, none⟩))) ∨
    (∃ s q off, FaOk P n ops o s q ∧ d.op = .fieldAddr off (.t s) ∧ p.rv = .pointer (some ⟨p.B, off, none⟩) ∧ (listed.getD q false = true → a.tmps.getD s undef = .pointer (some ⟨p.B, 0, none⟩)) ∧ (listed.getD q false = false → ∃ p' ∈ E, p'.i = q ∧ p'.rv = .pointer (some ⟨p.B, 0, none⟩))))
end
end Go.Dx
