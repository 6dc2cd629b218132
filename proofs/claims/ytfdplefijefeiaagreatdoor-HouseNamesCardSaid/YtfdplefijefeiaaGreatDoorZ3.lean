/- D: how an own value and heap stand for the model's. -/
import Derived.Test.YtfdplefijefeiaaGreatDoorZ1
import Derived.Below
import Derived.Deep.MidRow
namespace Go.Dx
open Go

structure Ent where
  blk : Nat
  base : Nat
  sp : Nat
  sz : Nat
abbrev Env := Nat → Option Ent
def Env.le (e e' : Env) : Prop := ∀ b x, e b = some x → e' b = some x
theorem Env.le.refl (e : Env) : Env.le e e := fun _ _ h => h
theorem Env.le.trans {a b c : Env} (h : Env.le a b) (g : Env.le b c) : Env.le a c := fun _ _ x => g _ _ (h _ _ x)

mutual
def val (e : Env) : DV → Option Value
  | .bool b => some (.bool b)
  | .int k n => some (.int k n)
  | .str s => some (.string ⟨s.toArray⟩)
  | .nilPtr => some (.pointer none)
  | .ptr b o => match e b with | some x => some (.pointer (some ⟨x.blk, x.base + o, none⟩)) | none => none
  | .nilSlice => some (.slice none 0 0)
  | .slice b o z len cap tight => match e b with
    | some x => some (.slice (some ⟨x.blk, x.base + (if (if tight then cap else cap + x.sp) = 0 then z else o), none⟩) len (if tight then cap else cap + x.sp))
    | none => none
  | .clip b o z => match e b with
    | some x => some (.slice (some ⟨x.blk, x.base + (if x.sp = 0 then z else o), none⟩) 0 0)
    | none => none
  | .nilMap => some (.map none)
  | .map r => match e r with | some x => some (.map (some x.blk)) | none => none
  | .func fn a b => match vals e a, vals e b with
    | some a, some b => some (.func fn a.toArray b.toArray)
    | _, _ => none
  | .nilFunc => some .nilFunc
  | .iface t v => match val e v with | some x => some (.iface t x) | none => none
  | .nilIface => some .nilIface
  | .agg cs => match vals e cs with | some l => some (.agg l.toArray) | none => none
  | .tuple cs => match vals e cs with | some l => some (.tuple l.toArray) | none => none
def vals (e : Env) : List DV → Option (List Value)
  | [] => some []
  | v :: vs => match val e v, vals e vs with
    | some x, some xs => some (x :: xs)
    | _, _ => none
end

mutual
theorem val_mono {e e' : Env} (h : Env.le e e') : ∀ (v : DV) (r : Value), val e v = some r → val e' v = some r
  | .bool _, _, hr | .int _ _, _, hr | .str _, _, hr | .nilPtr, _, hr | .nilSlice, _, hr | .nilMap, _, hr | .nilFunc, _, hr | .nilIface, _, hr => by simpa [val] using hr
  | .ptr b o, r, hr => by
    cases hb : e b with
    | none => simp [val, hb] at hr
    | some x => simp [val, hb] at hr; simp [val, h b x hb, hr]
  | .slice b o z len cap t, r, hr => by
    cases hb : e b with
    | none => simp [val, hb] at hr
    | some x => simp only [val, hb] at hr; simp only [val, h b x hb, hr]
  | .clip b o z, r, hr => by
    cases hb : e b with
    | none => simp [val, hb] at hr
    | some x => simp only [val, hb] at hr; simp only [val, h b x hb, hr]
  | .map b, r, hr => by
    cases hb : e b with
    | none => simp [val, hb] at hr
    | some x => simp [val, hb] at hr; simp [val, h b x hb, hr]
  | .func fn a b, r, hr => by
    cases ha : vals e a with
    | none => simp [val, ha] at hr
    | some x =>
      cases hb : vals e b with
      | none => simp [val, ha, hb] at hr
      | some y => simp [val, ha, hb] at hr; simp [val, vals_mono h a x ha, vals_mono h b y hb, hr]
  | .iface t v, r, hr => by
    cases hv : val e v with
    | none => simp [val, hv] at hr
    | some x => simp [val, hv] at hr; simp [val, val_mono h v x hv, hr]
  | .agg cs, r, hr => by
    cases hv : vals e cs with
    | none => simp [val, hv] at hr
    | some x => simp [val, hv] at hr; simp [val, vals_mono h cs x hv, hr]
  | .tuple cs, r, hr => by
    cases hv : vals e cs with
    | none => simp [val, hv] at hr
    | some x => simp [val, hv] at hr; simp [val, vals_mono h cs x hv, hr]
theorem vals_mono {e e' : Env} (h : Env.le e e') : ∀ (vs : List DV) (r : List Value), vals e vs = some r → vals e' vs = some r
  | [], _, hr => by simpa [vals] using hr
  | v :: vs, r, hr => by
    cases hv : val e v with
    | none => simp [vals, hv] at hr
    | some x =>
      cases hvs : vals e vs with
      | none => simp [vals, hv, hvs] at hr
      | some xs => simp [vals, hv, hvs] at hr; simp [vals, val_mono h v x hv, vals_mono h vs xs hvs, hr]
end

theorem vals_cons {e : Env} {v : DV} {vs : List DV} {r : List Value} (h : vals e (v :: vs) = some r) : ∃ x xs, r = x :: xs ∧ val e v = some x ∧ vals e vs = some xs := by
  cases hv : val e v with
  | none => simp [vals, hv] at h
  | some x =>
    cases hvs : vals e vs with
    | none => simp [vals, hv, hvs] at h
    | some xs => simp [vals, hv, hvs] at h; exact ⟨x, xs, h.symm, rfl, rfl⟩
theorem vals_cons_of {e : Env} {v : DV} {vs : List DV} {x : Value} {xs : List Value} (h : val e v = some x) (g : vals e vs = some xs) : vals e (v :: vs) = some (x :: xs) := by simp [vals, h, g]
theorem vals_length {e : Env} : ∀ {vs : List DV} {r : List Value}, vals e vs = some r → r.length = vs.length
  | [], r, h => by simp [vals] at h; rw [h]; rfl
  | v :: vs, r, h => by
    obtain ⟨x, xs, rfl, _, g⟩ := vals_cons h
    simp [vals_length g]
theorem vals_append {e : Env} : ∀ {a b : List DV} {x y : List Value}, vals e a = some x → vals e b = some y → vals e (a ++ b) = some (x ++ y)
  | [], b, x, y, h, g => by simp [vals] at h; subst h; simpa using g
  | v :: a, b, x, y, h, g => by
    obtain ⟨u, us, rfl, hu, hus⟩ := vals_cons h
    exact vals_cons_of hu (vals_append hus g)
theorem vals_drop {e : Env} : ∀ (n : Nat) {a : List DV} {x : List Value}, vals e a = some x → vals e (a.drop n) = some (x.drop n)
  | 0, a, x, h => by simpa using h
  | n + 1, [], x, h => by simp [vals] at h; subst h; simp [vals]
  | n + 1, v :: a, x, h => by
    obtain ⟨u, us, rfl, _, hus⟩ := vals_cons h
    simpa using vals_drop n hus
theorem vals_take {e : Env} : ∀ (n : Nat) {a : List DV} {x : List Value}, vals e a = some x → vals e (a.take n) = some (x.take n)
  | 0, a, x, h => by simp [vals]
  | n + 1, [], x, h => by simp [vals] at h; subst h; simp [vals]
  | n + 1, v :: a, x, h => by
    obtain ⟨u, us, rfl, hu, hus⟩ := vals_cons h
    simpa using vals_cons_of hu (vals_take n hus)
theorem vals_get {e : Env} : ∀ {a : List DV} {x : List Value} {i : Nat} {v : DV}, vals e a = some x → a[i]? = some v → ∃ r, x[i]? = some r ∧ val e v = some r
  | [], x, i, v, _, g => by simp at g
  | u :: a, x, 0, v, h, g => by
    obtain ⟨r, rs, rfl, hr, _⟩ := vals_cons h
    simp at g; subst g
    exact ⟨r, rfl, hr⟩
  | u :: a, x, i + 1, v, h, g => by
    obtain ⟨r, rs, rfl, _, hrs⟩ := vals_cons h
    simpa using vals_get hrs (by simpa using g)
theorem vals_sub {e : Env} {a : List DV} {x : List Value} (o n : Nat) (h : vals e a = some x) : vals e (sub a o n) = some ((x.drop o).take n) := vals_take n (vals_drop o h)
theorem vals_put {e : Env} {a b : List DV} {x y : List Value} (o : Nat) (h : vals e a = some x) (g : vals e b = some y) : vals e (put a o b) = some (x.take o ++ y ++ x.drop (o + y.length)) := by
  rw [put, vals_length g]
  exact vals_append (vals_append (vals_take o h) g) (vals_drop _ h)

/-- a map's entries -/
def ents (e : Env) : List (DV × DV × Nat) → Option (List MapEntry)
  | [] => some []
  | (k, v, n) :: es => match val e k, val e v, ents e es with
    | some k, some v, some es => some (⟨k, v, n⟩ :: es)
    | _, _, _ => none
def mref (e : Env) : Option Nat → Option (Option Nat)
  | none => some none
  | some r => match e r with | some x => some (some x.blk) | none => none
theorem ents_cons {e : Env} {k v : DV} {n : Nat} {es : List (DV × DV × Nat)} {r : List MapEntry} (h : ents e ((k, v, n) :: es) = some r) : ∃ k' v' es', r = ⟨k', v', n⟩ :: es' ∧ val e k = some k' ∧ val e v = some v' ∧ ents e es = some es' := by
  cases hk : val e k with
  | none => simp [ents, hk] at h
  | some k' =>
    cases hv : val e v with
    | none => simp [ents, hk, hv] at h
    | some v' =>
      cases hs : ents e es with
      | none => simp [ents, hk, hv, hs] at h
      | some es' => simp [ents, hk, hv, hs] at h; exact ⟨k', v', es', h.symm, rfl, rfl, rfl⟩
theorem ents_mono {e e' : Env} (h : Env.le e e') : ∀ (es : List (DV × DV × Nat)) (r : List MapEntry), ents e es = some r → ents e' es = some r
  | [], r, hr => by simpa [ents] using hr
  | (k, v, n) :: es, r, hr => by
    obtain ⟨k', v', es', rfl, hk, hv, hs⟩ := ents_cons hr
    simp [ents, val_mono h _ _ hk, val_mono h _ _ hv, ents_mono h es es' hs]
theorem mref_mono {e e' : Env} (h : Env.le e e') {m : Option Nat} {r : Option Nat} (hr : mref e m = some r) : mref e' m = some r := by
  cases m with
  | none => simpa [mref] using hr
  | some b =>
    cases hb : e b with
    | none => simp [mref, hb] at hr
    | some x => simp [mref, hb] at hr; simp [mref, h b x hb, hr]

def DObj.ro : DObj → Bool
  | .cells _ ro _ => ro
  | _ => false
/-- a row of cells in which nothing is frozen but behind its end -/
def Unfrozen (w : World) (B : Nat) : Prop := ∃ c T lo hi, w.heap[B]? = some (.cells c T (lo, hi)) ∧ (lo = hi ∨ c.size ≤ lo)
/-- an object, in the model's memory -/
def objAt (e : Env) (w : World) (x : Ent) : DObj → Prop
  | .cells cs ro k => ∃ rs, vals e cs = some rs ∧ w.rangeAt x.blk x.base rs ∧ (ro = false → w.there x.blk x.base (cs.length + x.sp * x.sz)) ∧ x.sz = k ∧ (ro = false → Unfrozen w x.blk)
  | .map es cl => ∃ ms, ents e es = some ms ∧ w.heap[x.blk]? = some (.map ms.toArray cl)
  | .strIter s p => x.base = 0 ∧ w.heap[x.blk]? = some (.stringIter ⟨s.toArray⟩ p)
  | .mapIter m since seen st => x.base = 0 ∧ ∃ r, mref e m = some r ∧ w.heap[x.blk]? = some (.mapIter r since seen.toArray st)
theorem objAt.mono {e e' : Env} (h : Env.le e e') {w : World} {x : Ent} {o : DObj} (g : objAt e w x o) : objAt e' w x o := by
  cases o with
  | cells cs ro k => obtain ⟨rs, h1, h2⟩ := g; exact ⟨rs, vals_mono h _ _ h1, h2⟩
  | map es cl => obtain ⟨ms, h1, h2⟩ := g; exact ⟨ms, ents_mono h _ _ h1, h2⟩
  | strIter s p => exact g
  | mapIter m a b c => obtain ⟨h0, r, h1, h2⟩ := g; exact ⟨h0, r, mref_mono h h1, h2⟩
/-- it stands on its block alone -/
theorem objAt.block {e : Env} {w w' : World} {x : Ent} {o : DObj} (g : objAt e w x o) (hb : w'.heap[x.blk]? = w.heap[x.blk]?) : objAt e w' x o := by
  have hc : ∀ off, w'.cell? ⟨x.blk, off, none⟩ = w.cell? ⟨x.blk, off, none⟩ := fun off => World.cell?_of_block hb
  have hf : ∀ off, w'.frozen? ⟨x.blk, off, none⟩ = w.frozen? ⟨x.blk, off, none⟩ := fun off => by unfold World.frozen?; rw [hb]
  cases o with
  | cells cs ro k =>
    obtain ⟨rs, h1, h2, h3, h4, h5⟩ := g
    refine ⟨rs, h1, fun j v hv => (hc _).trans (h2 j v hv), fun hr j hj => ?_, h4, fun hr => by unfold Unfrozen; rw [hb]; exact h5 hr⟩
    rw [hc, hf]; exact h3 hr j hj
  | map es cl => obtain ⟨ms, h1, h2⟩ := g; exact ⟨ms, h1, hb.trans h2⟩
  | strIter s p => exact ⟨g.1, hb.trans g.2⟩
  | mapIter m a b c => obtain ⟨h0, r, h1, h2⟩ := g; exact ⟨h0, r, h1, hb.trans h2⟩

structure Rep (e : Env) (h : DHeap) (w : World) : Prop where
  obj : ∀ b o, h.get b = some o → ∃ x, e b = some x ∧ objAt e w x o
  inj : ∀ b b' o o' x x', h.get b = some o → h.get b' = some o' → e b = some x → e b' = some x' → x.blk = x'.blk → b = b'
  lt : ∀ b x, e b = some x → x.blk < w.heap.size
  new : ∀ b, h.next ≤ b → e b = none

/-- which blocks may be written -/
def Foot (e : Env) (h : DHeap) (B : Nat) : Prop := ∃ b o x, h.get b = some o ∧ o.ro = false ∧ e b = some x ∧ x.blk = B
structure Step (e : Env) (h : DHeap) (w : World) (e' : Env) (h' : DHeap) (w' : World) : Prop where
  le : Env.le e e'
  rep : Rep e' h' w'
  os : w'.os = w.os
  tape : w'.tape = w.tape
  output : w'.output = w.output
  size : w.heap.size ≤ w'.heap.size
  block : ∀ B, B < w.heap.size → ¬ Foot e h B → w'.heap[B]? = w.heap[B]?
  foot : ∀ B, Foot e' h' B → Foot e h B ∨ w.heap.size ≤ B
  rng : ∀ b x, e' b = some x → (∃ c y, e c = some y ∧ y.blk = x.blk) ∨ w.heap.size ≤ x.blk
theorem Step.refl {e : Env} {h : DHeap} {w : World} (r : Rep e h w) : Step e h w e h w := ⟨Env.le.refl e, r, rfl, rfl, rfl, Nat.le_refl _, fun _ _ _ => rfl, fun _ => .inl, fun b x hb => .inl ⟨b, x, hb, rfl⟩⟩
theorem Step.trans {e e' e'' : Env} {h h' h'' : DHeap} {w w' w'' : World} (a : Step e h w e' h' w') (b : Step e' h' w' e'' h'' w'') : Step e h w e'' h'' w'' where
  le := a.le.trans b.le
  rep := b.rep
  os := b.os.trans a.os
  tape := b.tape.trans a.tape
  output := b.output.trans a.output
  size := Nat.le_trans a.size b.size
  block := fun B hB hF => (b.block B (Nat.lt_of_lt_of_le hB a.size) fun hF' => (a.foot B hF').elim hF fun hge => absurd hB (by omega)).trans (a.block B hB hF)
  foot := fun B hF => (b.foot B hF).elim (fun hF' => a.foot B hF') fun hge => .inr (Nat.le_trans a.size hge)
  rng := fun c x hc => (b.rng c x hc).elim (fun ⟨d, y, hd, hy⟩ => hy ▸ a.rng d y hd) fun hge => .inr (Nat.le_trans a.size hge)
end Go.Dx
