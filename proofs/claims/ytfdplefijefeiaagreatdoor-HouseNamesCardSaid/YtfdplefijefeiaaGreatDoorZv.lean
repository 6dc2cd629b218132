/- D: regions that draw. -/
import Derived.Test.YtfdplefijefeiaaGreatDoorZu
import Derived.Test.YtfdplefijefeiaaGreatDoorZw
import Derived.Deep.RegionHeld3
namespace Go.Dx
open Go

def pureD : DOp → Bool
  | .mov _ | .pick .. | .bin .. | .un .. | .convInt .. | .movStr _ | .mkIface .. | .mkFunc .. | .fieldAddr .. | .field .. | .indexAddrA .. | .indexAddrS .. | .indexStr .. | .indexArr .. | .sliceStr .. | .sliceSl .. | .sliceArr ..
  | .extract .. | .lenStr _ | .lenSl _ | .lenArr _ | .capSl _ | .minmax .. | .eqv .. | .assertC .. | .assertI .. | .nilCheck _ => true
  | _ => false
def readD : DOp → Bool
  | .load1 _ | .loadN .. | .lookup .. | .lenMap _ | .bytesStr _ | .entry _ => true
  | _ => false
theorem pure_const {D : DProg} {t : Fr} {h h2 : DHeap} {op : DOp} (hp : pureD op = true) : opD D t h op = opD D t h2 op := by
  cases op <;> first | (cases hp; done) | rfl

theorem eqS_eq {a b : DV} (h : eqS a b = true) : a = b := by
  cases a <;> cases b <;> simp only [eqS] at h <;> first | (cases h; done) | rfl | (simp at h; simp_all)
theorem eqL_eq {f : DV → DV → Bool} (hf : ∀ a b, f a b = true → a = b) : ∀ {a b : List DV}, eqL f a b = true → a = b
  | [], [], _ => rfl
  | [], _ :: _, h => by simp [eqL] at h
  | _ :: _, [], h => by simp [eqL] at h
  | a :: as, b :: bs, h => by
    simp only [eqL, Bool.and_eq_true] at h
    rw [hf a b h.1, eqL_eq hf h.2]
theorem eqV_eq {f : DV → DV → Bool} (hf : ∀ a b, f a b = true → a = b) {a b : DV} (h : eqV f a b = true) : a = b := by
  unfold eqV at h
  split at h
  · simp only [Bool.and_eq_true] at h
    rw [hf _ _ h.2, Nat.beq_eq.mp h.1]
  · rw [eqL_eq hf h]
  · rw [eqL_eq hf h]
  · exact eqS_eq h
theorem eqDV_eq {a b : DV} (h : eqDV a b = true) : a = b := eqV_eq (fun _ _ => eqV_eq fun _ _ => eqS_eq) h

def Held (D : DProg) (h : DHeap) (held : HeldL) : Prop := ∀ x ∈ held, opD D x.2.1 h x.1 = some (.same x.2.2.1)
theorem heldD_ok {D : DProg} {h : DHeap} : ∀ {held : HeldL}, heldD D h held = true → Held D h held
  | [], _ => fun x hx => by cases hx
  | (o, t, v, ds) :: l, hh => by
    simp only [heldD, Bool.and_eq_true] at hh
    intro x hx
    cases hx with
    | tail _ hx => exact heldD_ok hh.2 x hx
    | head =>
      have h1 := hh.1
      split at h1
      · next u hu => rw [hu, eqDV_eq h1]
      · cases h1
theorem mem_dropD {j : Nat} : ∀ {held : HeldL} {x}, x ∈ dropD j held ↔ x ∈ held ∧ x.2.2.2.contains j = false
  | [], x => by simp [dropD]
  | y :: l, x => by
    simp only [dropD]
    split
    · next hc =>
      rw [mem_dropD, List.mem_cons]
      constructor
      · exact fun ⟨h1, h2⟩ => ⟨.inr h1, h2⟩
      · rintro ⟨rfl | h1, h2⟩
        · rw [hc] at h2; cases h2
        · exact ⟨h1, h2⟩
    · next hc =>
      rw [List.mem_cons, mem_dropD, List.mem_cons]
      constructor
      · rintro (rfl | ⟨h1, h2⟩)
        · exact ⟨.inl rfl, by simpa using hc⟩
        · exact ⟨.inr h1, h2⟩
      · rintro ⟨rfl | h1, h2⟩
        · exact .inl rfl
        · exact .inr ⟨h1, h2⟩

/-- an operation that makes a new object and looks at nothing -/
def lateO (o : Oper) : Bool :=
  match o.op with
  | .alloc _ => true
  | .makeMap _ none => true
  | _ => false

/-- those that wait for an operation -/
def waitStep (ops : Array Oper) (i : Nat) (acc : List Nat) (m : Nat) : List Nat :=
  match ops[m]? with
  | some o => if o.after.any (fun e => Region.binds .any e && (e.on == i || acc.contains e.on)) then m :: acc else acc
  | none => acc
def waitL (ops : Array Oper) (i : Nat) : List Nat := (List.range ops.size).foldl (waitStep ops i) []
theorem waitL_ok {ops : Array Oper} {L : Array Bool} (hcl : Closed .any ops L) (i : Nat) : ∀ m ∈ waitL ops i, L.getD m false = true → L.getD i false = true := by
  have key : ∀ (l acc : List Nat), (∀ m ∈ acc, L.getD m false = true → L.getD i false = true) → ∀ m ∈ l.foldl (waitStep ops i) acc, L.getD m false = true → L.getD i false = true := by
    intro l
    induction l with
    | nil => exact fun acc h => h
    | cons x l ih =>
      intro acc h
      refine ih _ fun m hm hl => ?_
      unfold waitStep at hm
      split at hm
      · next o ho =>
        split at hm
        · next hany =>
          rcases List.mem_cons.1 hm with rfl | hm
          · obtain ⟨e, he, hb⟩ := Array.any_eq_true'.1 hany
            simp only [Bool.and_eq_true, Bool.or_eq_true, beq_iff_eq] at hb
            have hon := hcl m o ho hl e he hb.1
            rcases hb.2 with h1 | h1
            · rwa [h1] at hon
            · exact h _ (by simpa using h1) hon
          · exact h m hm hl
        · exact h m hm hl
      · exact h m hm hl
  exact key _ [] (fun m hm => by cases hm)

/-- no two write the same slot -/
def nd : List Oper → Bool
  | [] => true
  | o :: os => (match o.dst with | none => true | some d => os.all fun p => p.dst != some d) && nd os
theorem nd_lt : ∀ {l : List Oper} {i j : Nat} {oi oj : Oper}, nd l = true → l[i]? = some oi → l[j]? = some oj → i < j → ∀ d, oi.dst = some d → oj.dst ≠ some d
  | [], i, j, oi, oj, _, hi, _, _ => by simp at hi
  | o :: os, i, j, oi, oj, h, hi, hj, hlt => by
    simp only [nd, Bool.and_eq_true] at h
    obtain ⟨j', rfl⟩ : ∃ j', j = j' + 1 := ⟨j - 1, by omega⟩
    rw [List.getElem?_cons_succ] at hj
    cases i with
    | zero =>
      simp only [List.getElem?_cons_zero, Option.some.injEq] at hi
      subst hi
      intro d hd
      have h1 := h.1
      rw [hd] at h1
      have := List.all_eq_true.1 h1 oj (List.mem_of_getElem? hj)
      simpa using this
    | succ i =>
      rw [List.getElem?_cons_succ] at hi
      exact nd_lt h.2 hi hj (by omega)
theorem nd_ne {ops : Array Oper} (h : nd ops.toList = true) {i j : Nat} {oi oj : Oper} (hi : ops[i]? = some oi) (hj : ops[j]? = some oj) (hne : i ≠ j) (d : Tmp) (hd : oi.dst = some d) : oj.dst ≠ some d := by
  have hi' : ops.toList[i]? = some oi := by simpa using hi
  have hj' : ops.toList[j]? = some oj := by simpa using hj
  rcases Nat.lt_or_ge i j with hlt | hge
  · exact nd_lt h hi' hj' hlt d hd
  · exact fun he => nd_lt h hj' hi' (by omega) d he hd

/-- an operation apart from all those that don't wait for it, and for which it doesn't wait -/
def freeW (ops : Array Oper) (listed : Array Bool) (i : Nat) : Bool :=
  match ops[i]? with
  | none => false
  | some oi => (List.range ops.size).all fun j => j == i || listed.getD j true || match ops[j]? with
      | some oj => oj.after.any (fun e => Region.binds .any e && e.on == i) || oi.after.any (fun e => Region.binds .any e && e.on == j) || oi.apart ops oj
      | none => true
theorem freeW_spec {ops : Array Oper} {listed : Array Bool} {i j : Nat} {oi oj : Oper} (h : freeW ops listed i = true) (hi : ops[i]? = some oi) (hj : ops[j]? = some oj) (hne : j ≠ i) (hun : listed.getD j true = false)
    (h1 : ∀ e ∈ oj.after, Region.binds .any e = true → e.on ≠ i) (h2 : ∀ e ∈ oi.after, Region.binds .any e = true → e.on ≠ j) : oi.apart ops oj = true := by
  simp only [freeW, hi, List.all_eq_true, List.mem_range] at h
  have h3 := h j (Array.getElem?_eq_some_iff.1 hj).1
  simp only [hj, Bool.or_eq_true, beq_iff_eq, hne, false_or, hun, Bool.false_eq_true] at h3
  rcases h3 with (h3 | h3) | h3
  · obtain ⟨e, he, hb⟩ := Array.any_eq_true'.1 h3
    simp only [Bool.and_eq_true, beq_iff_eq] at hb
    exact absurd hb.2 (h1 e he hb.1)
  · obtain ⟨e, he, hb⟩ := Array.any_eq_true'.1 h3
    simp only [Bool.and_eq_true, beq_iff_eq] at hb
    exact absurd hb.2 (h2 e he hb.1)
  · exact h3
theorem getD_set_true' {listed : Array Bool} {i j : Nat} (h : listed.getD j true = true) : (listed.setIfInBounds i true).getD j true = true := by
  by_cases hij : i = j
  · subst hij
    by_cases hlt : i < listed.size
    · simp [hlt]
    · simp [hlt]
  · rw [getD_set_ne true hij]; exact h
theorem getD_set_false {listed : Array Bool} {i j : Nat} (h : (listed.setIfInBounds i true).getD j true = false) : listed.getD j true = false ∧ i ≠ j := by
  have hne : i ≠ j := fun hij => by
    subst hij
    by_cases hlt : i < listed.size
    · simp [hlt] at h
    · simp [hlt] at h
  exact ⟨by rw [getD_set_ne true hne] at h; exact h, hne⟩
theorem freeW_set {ops : Array Oper} {listed : Array Bool} {i k : Nat} (h : freeW ops listed i = true) : freeW ops (listed.setIfInBounds k true) i = true := by
  unfold freeW at h ⊢
  split at h
  · cases h
  · next oi hi =>
    simp only [List.all_eq_true] at h ⊢
    intro j hj
    have h1 := h j hj
    simp only [Bool.or_eq_true] at h1 ⊢
    rcases h1 with (h1 | h1) | h1
    · exact .inl (.inl h1)
    · exact .inl (.inr (getD_set_true' h1))
    · exact .inr h1

def isLate (P : Program) (n : Nat) (ops : Array Oper) (i : Nat) : Bool := match ops[i]? with
  | some o => lateO o && match operN P n ops o with | some d => d.guard.isNone | none => false
  | none => false
def loud (P : Program) (n : Nat) (ops : Array Oper) (i : Nat) : Bool := match ops[i]? with
  | some o => match operN P n ops o with | some d => !(pureD d.op || readD d.op || lateO o) | none => false
  | none => false
def edgesOn (o : Oper) (q : Nat) : Bool := o.after.any (fun e => Region.binds .any e && e.on == q) && o.after.all fun e => !Region.binds .any e || e.on == q
/-- an address in an object that may come up at any time -/
def faO (P : Program) (n : Nat) (ops : Array Oper) (o : Oper) : Bool :=
  match o.op with
  | .fieldAddr _ (.tmp s) _ => (List.range ops.size).any fun q => edgesOn o q && isLate P n ops q && (match ops[q]? with | some oq => (match oq.op with | .alloc _ => true | _ => false) && oq.dst == some s | none => false)
  | _ => false
/-- an operation that may come up ahead of its turn -/
def pend (P : Program) (n : Nat) (ops : Array Oper) (listed : Array Bool) (i : Nat) : Bool :=
  match ops[i]? with
  | some o => (lateO o || faO P n ops o) && (match operN P n ops o with | some d => d.guard.isNone | none => false) && freeW ops listed i
  | none => false
theorem pend_set {P : Program} {n : Nat} {ops : Array Oper} {listed : Array Bool} {i k : Nat} (h : pend P n ops listed i = true) : pend P n ops (listed.setIfInBounds k true) i = true := by
  unfold pend at h ⊢
  split at h
  · simp only [Bool.and_eq_true] at h ⊢
    exact ⟨h.1, freeW_set h.2⟩
  · cases h
theorem isLate_parts {P : Program} {n : Nat} {ops : Array Oper} {i : Nat} (h : isLate P n ops i = true) : ∃ o d, ops[i]? = some o ∧ operN P n ops o = some d ∧ d.guard = none ∧ lateO o = true := by
  unfold isLate at h
  split at h
  · next o ho =>
    simp only [Bool.and_eq_true] at h
    have h2 := h.2
    split at h2
    · next d hd => exact ⟨o, d, ho, hd, by simpa using h2, h.1⟩
    · cases h2
  · cases h
/-- an address in a new object -/
def FaOk (P : Program) (n : Nat) (ops : Array Oper) (o : Oper) (s q : Nat) : Prop :=
  (∃ T f, o.op = .fieldAddr T (.tmp s) f) ∧ edgesOn o q = true ∧ isLate P n ops q = true ∧ ∃ oq T, ops[q]? = some oq ∧ oq.op = .alloc T ∧ oq.dst = some s
theorem pend_parts {P : Program} {n : Nat} {ops : Array Oper} {listed : Array Bool} {i : Nat} (h : pend P n ops listed i = true) : ∃ o d, ops[i]? = some o ∧ operN P n ops o = some d ∧ d.guard = none ∧ freeW ops listed i = true ∧
    (lateO o = true ∨ ∃ s q, FaOk P n ops o s q) := by
  unfold pend at h
  split at h
  · next o ho =>
    simp only [Bool.and_eq_true, Bool.or_eq_true] at h
    obtain ⟨⟨h1, h2⟩, h3⟩ := h
    split at h2
    · next d hd =>
      refine ⟨o, d, ho, hd, by simpa using h2, h3, h1.imp id fun hfa => ?_⟩
      unfold faO at hfa
      split at hfa
      · next T s f hop =>
        obtain ⟨q, _, hq⟩ := List.any_eq_true.1 hfa
        simp only [Bool.and_eq_true] at hq
        obtain ⟨⟨h4, h5⟩, h6⟩ := hq
        split at h6
        · next oq hoq =>
          simp only [Bool.and_eq_true, beq_iff_eq] at h6
          obtain ⟨h6, h7⟩ := h6
          split at h6
          · next T' hT' => exact ⟨s, q, ⟨T, f, hop⟩, h4, h5, oq, T', hoq, hT', h7⟩
          · cases h6
        · cases h6
      · cases hfa
    · cases h2
  · cases h

def closeP (P : Program) (n : Nat) (ops : Array Oper) (L : Array Bool) (skip : Nat) : Nat → Array Bool → Array Bool
  | 0, R => R
  | f + 1, R => match (Region.ready .any ops R).find? (fun m => m != skip && pend P n ops L m) with
    | some m => closeP P n ops L skip f (R.setIfInBounds m true)
    | none => R
def takeable (P : Program) (n : Nat) (ops : Array Oper) (listed : Array Bool) (i : Nat) : Bool :=
  match (ops[i]?).bind (operN P n ops) with
  | some d => (pureD d.op || readD d.op) && Region.free .any ops listed i
  | none => false
def kindOfD (P : Program) (n : Nat) (ops : Array Oper) (i : Nat) (d : DOp) : SK := match pureD d with | true => .pure | false => .read ((waitL ops i).filter (loud P n ops))
/-- the schedule of a region that draws -/
def schedC (P : Program) (n : Nat) (ops : Array Oper) : Nat → Array Bool → Option (List (DOper × SK))
  | 0, listed => match Region.ready .any ops listed with | [] => some [] | _ => none
  | k + 1, listed => match Region.ready .any ops listed with
    | [] => some []
    | r :: rs =>
      match (r :: rs).find? (takeable P n ops listed) with
      | some i => ((ops[i]?).bind (operN P n ops)).bind fun d => (schedC P n ops k (listed.setIfInBounds i true)).map fun l => (d, kindOfD P n ops i d.op) :: l
      | none =>
        match (r :: rs).find? (fun q => !pend P n ops listed q && (Region.ready .any ops (closeP P n ops listed ops.size ops.size listed) == [q])) with
        | some q => ((ops[q]?).bind (operN P n ops)).bind fun d => (schedC P n ops k (listed.setIfInBounds q true)).map fun l => (d, .alone q) :: l
        | none => match (r :: rs).find? (fun i => isLate P n ops i && pend P n ops listed i && (Region.ready .any ops (closeP P n ops listed i ops.size listed) == [i])) with
          | some i => ((ops[i]?).bind (operN P n ops)).bind fun d => (schedC P n ops k (listed.setIfInBounds i true)).map fun l => (d, .late) :: l
          | none => none
def drawC (P : Program) (n : Nat) (ops : Array Oper) : Option (List (DOper × SK)) :=
  if Region.noSelect ops && nd ops.toList then schedC P n ops ops.size (Array.replicate ops.size false) else none
end Go.Dx
