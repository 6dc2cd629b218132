/- D: operands, types; what an operation of the model does, and what the own one does. -/
import Derived.Test.YtfdplefijefeiaaGreatDoorZ4
import Derived.Test.YtfdplefijefeiaaGreatDoorZ2
import Derived.Laws.Entries
import Derived.Laws.Cells
namespace Go.Dx
open Go

theorem mapM_cons_some {α β : Type} {f : α → Option β} {a : α} {l : List α} {r : List β} (h : (a :: l).mapM f = some r) : ∃ b bs, r = b :: bs ∧ f a = some b ∧ l.mapM f = some bs := by
  rw [List.mapM_cons] at h
  cases hf : f a with
  | none => simp [hf] at h
  | some b =>
    cases hl : l.mapM f with
    | none => simp [hf, hl] at h
    | some bs => simp [hf, hl] at h; exact ⟨b, bs, h.symm, rfl, rfl⟩
theorem mapM_nil_some {α β : Type} {f : α → Option β} {r : List β} (h : ([] : List α).mapM f = some r) : r = [] := by simpa using h.symm

/-- a constant -/
theorem valD_val (e : Env) : ∀ (n : Nat) (v : Value) (d : DV), valD n v = some d → val e d = some v
  | 0, _, _, h => by simp [valD] at h
  | n + 1, v, d, h => by
    have ih : ∀ (l : List Value) (r : List DV), l.mapM (valD n) = some r → vals e r = some l := by
      intro l
      induction l with
      | nil => intro r hr; rw [mapM_nil_some hr]; rfl
      | cons a l ihl =>
        intro r hr
        obtain ⟨b, bs, rfl, h1, h2⟩ := mapM_cons_some hr
        exact vals_cons_of (valD_val e n a b h1) (ihl bs h2)
    cases v with
    | bool b => simp [valD] at h; subst h; rfl
    | int k i => simp [valD] at h; subst h; rfl
    | string s => simp [valD] at h; subst h; rfl
    | pointer a => cases a <;> simp [valD] at h; subst h; rfl
    | slice a l c =>
      cases a with
      | none =>
        cases l <;> cases c <;> simp [valD] at h
        subst h; rfl
      | some a => simp [valD] at h
    | map r => cases r <;> simp [valD] at h; subst h; rfl
    | func fn a b =>
      simp only [valD] at h
      cases ha : a.toList.mapM (valD n) with
      | none => simp [ha] at h
      | some x =>
        cases hb : b.toList.mapM (valD n) with
        | none => simp [ha, hb] at h
        | some y =>
          simp [ha, hb] at h; subst h
          simp [val, ih _ _ ha, ih _ _ hb]
    | nilFunc => simp [valD] at h; subst h; rfl
    | nilIface => simp [valD] at h; subst h; rfl
    | iface t v =>
      simp only [valD, Option.map_eq_some_iff] at h
      obtain ⟨x, hx, rfl⟩ := h
      simp [val, valD_val e n v x hx]
    | agg cs =>
      simp only [valD, Option.map_eq_some_iff] at h
      obtain ⟨x, hx, rfl⟩ := h
      simp [val, ih _ _ hx]
    | tuple cs =>
      simp only [valD, Option.map_eq_some_iff] at h
      obtain ⟨x, hx, rfl⟩ := h
      simp [val, ih _ _ hx]
    | float k b => simp [valD] at h
    | complex k a b => simp [valD] at h
    | chan r => simp [valD] at h

/-- the package-level variables stand at their own numbers -/
def Glob (P : Program) (e : Env) : Prop := ∀ g, g < P.globals.size → ∃ sp sz, e g = some ⟨g, 0, sp, sz⟩
theorem Glob.le {P : Program} {e e' : Env} (h : Glob P e) (l : Env.le e e') : Glob P e' := fun g hg => let ⟨a, b, c⟩ := h g hg; ⟨a, b, l _ _ c⟩
/-- a frame -/
def FrR (e : Env) (t : Fr) (tmps : Array Value) : Prop := ∀ n, val e ((t.get n).getD undefD) = some (tmps.getD n undef)
theorem FrR.le {e e' : Env} {t : Fr} {tmps : Array Value} (h : FrR e t tmps) (l : Env.le e e') : FrR e' t tmps := fun n => val_mono l _ _ (h n)
theorem undef_val (e : Env) : val e undefD = some undef := rfl
theorem FrR.ev {e : Env} {t : Fr} {a : Act} (h : FrR e t a.tmps) (n : Nat) : val e (Opd.ev t (.t n)) = some (a.eval (.tmp n)) := by
  have e1 : Opd.ev t (.t n) = (t.get n).getD undefD := by
    simp only [Opd.ev]
    cases t.get n <;> rfl
  rw [e1]
  exact h n
theorem opd_ok {P : Program} {e : Env} {t : Fr} {a : Act} (hg : Glob P e) (h : FrR e t a.tmps) {x : Operand} {y : Opd} (hx : opdD P x = some y) : val e (y.ev t) = some (a.eval x) := by
  cases x with
  | tmp n => simp [opdD] at hx; subst hx; exact h.ev n
  | const v =>
    simp only [opdD, Option.map_eq_some_iff] at hx
    obtain ⟨d, hd, rfl⟩ := hx
    exact valD_val e 4 v d hd
  | global g =>
    simp only [opdD] at hx
    split at hx
    · next hlt =>
      cases hx
      obtain ⟨sp, sz, he⟩ := hg g hlt
      show val e (.ptr g 0) = _
      simp only [val, he]
      rfl
    · cases hx
  | func f => simp [opdD] at hx; subst hx; rfl
theorem opds_ok {P : Program} {e : Env} {t : Fr} {a : Act} (hg : Glob P e) (h : FrR e t a.tmps) : ∀ {xs : List Operand} {ys : List Opd}, xs.mapM (opdD P) = some ys → vals e (ys.map (·.ev t)) = some (xs.map a.eval)
  | [], ys, hx => by rw [mapM_nil_some hx]; rfl
  | x :: xs, ys, hx => by
    obtain ⟨b, bs, rfl, h1, h2⟩ := mapM_cons_some hx
    exact vals_cons_of (opd_ok hg h h1) (opds_ok hg h h2)

/-- types -/
theorem run_sizeT {P : Program} {t : TypeId} {n : Nat} (h : sizeT P t = some n) (w : World) : (sizeOf t).run P w = .ok n w := by
  unfold sizeT at h
  cases hi : P.info? t with
  | none => simp [hi] at h
  | some i => simp [hi] at h; simp [sizeOf, typeInfo, hi, h]
theorem run_isAggT {P : Program} {t : TypeId} {d : TypeDesc} (h : P.underlying t = some d) (w : World) : (isAgg t).run P w = .ok (isAggT P t) w := by
  unfold isAgg isAggT
  rw [Sem.run_bind, run_underlying h w, h]
  cases d <;> rfl
theorem run_zeroT {P : Program} {t : TypeId} {z : DV} (h : zeroT P t = some z) (e : Env) (w : World) : ∃ v, (zeroValue t).run P w = .ok v w ∧ val e z = some v := by
  unfold zeroT at h
  cases hi : P.info? t with
  | none => simp [hi] at h
  | some i =>
    simp only [hi, Option.bind_some] at h
    cases hz : i.zero with
    | none => simp [hz] at h
    | some v =>
      simp only [hz, Option.bind_some] at h
      exact ⟨v, by simp [zeroValue, typeInfo, hi, hz], valD_val e 4 v z h⟩
end Go.Dx
