/- D: the trie, and the heap's moves. -/
import Derived.Test.YtfdplefijefeiaaGreatDoorZ3
namespace Go.Dx
open Go

theorem Tr.get_nil {α : Type} (n : Nat) : (Tr.nil : Tr α).get n = none := rfl
theorem half_inj {m n : Nat} (h : m / 2 = n / 2) (g : m % 2 = n % 2) : m = n := by omega
theorem Tr.get_setF {α : Type} (x : Option α) : ∀ (f : Nat) (t : Tr α) (n m : Nat), n < f → (Tr.setF x f t n).get m = if m = n then x else t.get m
  | 0, _, _, _, h => by omega
  | f + 1, .nil, 0, m, _ => by
    cases m with
    | zero => simp [Tr.setF, Tr.get]
    | succ m => simp [Tr.setF, Tr.get]
  | f + 1, .nil, n + 1, m, h => by
    have ih := Tr.get_setF x f .nil (n / 2)
    simp only [Tr.setF]
    cases m with
    | zero => split <;> simp [Tr.get]
    | succ m =>
      by_cases hn : n % 2 = 0
      · rw [if_pos hn]
        simp only [Tr.get]
        by_cases hm : m % 2 = 0
        · rw [if_pos hm, ih _ (by omega)]
          by_cases e : m / 2 = n / 2
          · rw [if_pos e, if_pos (by omega)]
          · rw [if_neg e, if_neg (by omega)]; rfl
        · rw [if_neg hm, if_neg (by omega)]
      · rw [if_neg hn]
        simp only [Tr.get]
        by_cases hm : m % 2 = 0
        · rw [if_pos hm, if_neg (by omega)]
        · rw [if_neg hm, ih _ (by omega)]
          by_cases e : m / 2 = n / 2
          · rw [if_pos e, if_pos (by omega)]
          · rw [if_neg e, if_neg (by omega)]; rfl
  | f + 1, .node l v r, 0, m, _ => by
    cases m with
    | zero => simp [Tr.setF, Tr.get]
    | succ m => simp [Tr.setF, Tr.get]
  | f + 1, .node l v r, n + 1, m, h => by
    have ihl := Tr.get_setF x f l (n / 2)
    have ihr := Tr.get_setF x f r (n / 2)
    simp only [Tr.setF]
    cases m with
    | zero => split <;> simp [Tr.get]
    | succ m =>
      by_cases hn : n % 2 = 0
      · rw [if_pos hn]
        simp only [Tr.get]
        by_cases hm : m % 2 = 0
        · rw [if_pos hm, if_pos hm, ihl _ (by omega)]
          by_cases e : m / 2 = n / 2
          · rw [if_pos e, if_pos (by omega)]
          · rw [if_neg e, if_neg (by omega)]
        · rw [if_neg hm, if_neg hm, if_neg (by omega)]
      · rw [if_neg hn]
        simp only [Tr.get]
        by_cases hm : m % 2 = 0
        · rw [if_pos hm, if_pos hm, if_neg (by omega)]
        · rw [if_neg hm, if_neg hm, ihr _ (by omega)]
          by_cases e : m / 2 = n / 2
          · rw [if_pos e, if_pos (by omega)]
          · rw [if_neg e, if_neg (by omega)]
theorem Tr.get_set {α : Type} (t : Tr α) (n m : Nat) (x : Option α) : (t.set n x).get m = if m = n then x else t.get m := Tr.get_setF x _ t n m (Nat.lt_succ_self n)

theorem DHeap.get_put (h : DHeap) (b c : Nat) (o : DObj) : (h.put b o).get c = if c = b then some o else h.get c := Tr.get_set ..
theorem DHeap.get_kill (h : DHeap) (b c : Nat) : (h.kill b).get c = if c = b then none else h.get c := Tr.get_set ..
theorem DHeap.get_new (h : DHeap) (c : Nat) (o : DObj) : (h.new o).get c = if c = h.next then some o else h.get c := Tr.get_set ..

/-- the environment with one more -/
def Env.add (e : Env) (b : Nat) (x : Ent) : Env := fun c => if c = b then some x else e c
theorem Env.le_add {e : Env} {b : Nat} (h : e b = none) (x : Ent) : Env.le e (e.add b x) := fun c y hc => by
  unfold Env.add
  rw [if_neg (fun e => by rw [e, h] at hc; cases hc)]; exact hc

theorem live_lt {e : Env} {h : DHeap} {w : World} (r : Rep e h w) {b : Nat} {o : DObj} (hb : h.get b = some o) : b < h.next := by
  obtain ⟨x, hx, _⟩ := r.obj b o hb
  refine Nat.lt_of_not_le fun hle => ?_
  rw [r.new b hle] at hx; cases hx

/-- a new object, in a new block -/
theorem Step.new {e : Env} {h : DHeap} {w : World} (r : Rep e h w) {o : DObj} {w' : World} (x : Ent) (hx : x.blk = w.heap.size)
    (hs : w'.heap.size = w.heap.size + 1) (ho : w'.os = w.os) (ht : w'.tape = w.tape) (hu : w'.output = w.output) (hb : ∀ B, B < w.heap.size → w'.heap[B]? = w.heap[B]?)
    (hobj : objAt (e.add h.next x) w' x o) : Step e h w (e.add h.next x) (h.new o) w' where
  le := Env.le_add (r.new _ (Nat.le_refl _)) x
  os := ho
  tape := ht
  output := hu
  size := by omega
  block := fun B hB _ => hb B hB
  rng := fun b y hy => by
    unfold Env.add at hy
    by_cases hc : b = h.next
    · rw [if_pos hc] at hy
      cases hy
      exact .inr (by omega)
    · rw [if_neg hc] at hy
      exact .inl ⟨b, y, hy, rfl⟩
  foot := fun B ⟨b, o', y, h1, h2, h3, h4⟩ => by
    rw [DHeap.get_new] at h1
    by_cases hc : b = h.next
    · unfold Env.add at h3
      rw [if_pos hc] at h3
      cases h3
      exact .inr (by omega)
    · rw [if_neg hc] at h1
      unfold Env.add at h3
      rw [if_neg hc] at h3
      exact .inl ⟨b, o', y, h1, h2, h3, h4⟩
  rep := by
    have hle := Env.le_add (r.new _ (Nat.le_refl _)) x
    refine ⟨fun b o' hb' => ?_, fun b b' o1 o2 y y' h1 h2 h3 h4 h5 => ?_, fun b y hy => ?_, fun b hb' => ?_⟩
    · rw [DHeap.get_new] at hb'
      by_cases hc : b = h.next
      · rw [if_pos hc] at hb'
        cases hb'
        exact ⟨x, by unfold Env.add; rw [if_pos hc], hobj⟩
      · rw [if_neg hc] at hb'
        obtain ⟨y, hy, hob⟩ := r.obj b o' hb'
        refine ⟨y, by unfold Env.add; rw [if_neg hc]; exact hy, (hob.mono hle).block (hb _ (r.lt b y hy))⟩
    · rw [DHeap.get_new] at h1 h2
      unfold Env.add at h3 h4
      by_cases hc : b = h.next
      · by_cases hc' : b' = h.next
        · omega
        · rw [if_pos hc] at h3
          rw [if_neg hc'] at h4
          cases h3
          have := r.lt b' y' h4
          omega
      · by_cases hc' : b' = h.next
        · rw [if_neg hc] at h3
          rw [if_pos hc'] at h4
          cases h4
          have := r.lt b y h3
          omega
        · rw [if_neg hc] at h1 h3
          rw [if_neg hc'] at h2 h4
          exact r.inj b b' o1 o2 y y' h1 h2 h3 h4 h5
    · unfold Env.add at hy
      by_cases hc : b = h.next
      · rw [if_pos hc] at hy
        cases hy
        omega
      · rw [if_neg hc] at hy
        have := r.lt b y hy
        omega
    · have hb'' : h.next + 1 ≤ b := hb'
      unfold Env.add
      rw [if_neg (by omega)]
      exact r.new b (by omega)
/-- an object written over -/
theorem Step.put {e : Env} {h : DHeap} {w : World} (r : Rep e h w) {b : Nat} {o o' : DObj} {w' : World} {x : Ent} (hg : h.get b = some o) (hro : o.ro = false) (hro' : o'.ro = false) (hx : e b = some x)
    (hs : w'.heap.size = w.heap.size) (ho : w'.os = w.os) (ht : w'.tape = w.tape) (hu : w'.output = w.output) (hb : ∀ B, B ≠ x.blk → w'.heap[B]? = w.heap[B]?)
    (hobj : objAt e w' x o') : Step e h w e (h.put b o') w' where
  le := Env.le.refl e
  os := ho
  tape := ht
  output := hu
  size := by omega
  block := fun B _ hF => hb B fun e => hF ⟨b, o, x, hg, hro, hx, e.symm⟩
  rng := fun b y hy => .inl ⟨b, y, hy, rfl⟩
  foot := fun B ⟨c, o1, y, h1, h2, h3, h4⟩ => by
    rw [DHeap.get_put] at h1
    by_cases hc : c = b
    · rw [hc, hx] at h3
      cases h3
      exact .inl ⟨b, o, x, hg, hro, hx, h4⟩
    · rw [if_neg hc] at h1
      exact .inl ⟨c, o1, y, h1, h2, h3, h4⟩
  rep := by
    refine ⟨fun c o1 hc => ?_, fun c c' o1 o2 y y' h1 h2 h3 h4 h5 => ?_, fun c y hy => ?_, fun c hc => ?_⟩
    · rw [DHeap.get_put] at hc
      by_cases hcb : c = b
      · rw [if_pos hcb] at hc
        cases hc
        rw [hcb]
        exact ⟨x, hx, hobj⟩
      · rw [if_neg hcb] at hc
        obtain ⟨y, hy, hob⟩ := r.obj c o1 hc
        exact ⟨y, hy, hob.block (hb _ fun e => hcb (r.inj c b o1 o y x hc hg hy hx e))⟩
    · have k1 : ∃ o, h.get c = some o := by
        rw [DHeap.get_put] at h1
        by_cases hcb : c = b
        · exact ⟨o, hcb ▸ hg⟩
        · rw [if_neg hcb] at h1; exact ⟨o1, h1⟩
      have k2 : ∃ o, h.get c' = some o := by
        rw [DHeap.get_put] at h2
        by_cases hcb : c' = b
        · exact ⟨o, hcb ▸ hg⟩
        · rw [if_neg hcb] at h2; exact ⟨o2, h2⟩
      obtain ⟨u1, k1⟩ := k1
      obtain ⟨u2, k2⟩ := k2
      exact r.inj c c' u1 u2 y y' k1 k2 h3 h4 h5
    · rw [hs]; exact r.lt c y hy
    · exact r.new c hc
/-- a block more that nobody knows of yet -/
theorem Step.grow {e : Env} {h : DHeap} {w w' : World} (r : Rep e h w) (hs : w.heap.size ≤ w'.heap.size) (ho : w'.os = w.os) (ht : w'.tape = w.tape) (hu : w'.output = w.output) (hb : ∀ B, B < w.heap.size → w'.heap[B]? = w.heap[B]?) : Step e h w e h w' where
  le := Env.le.refl e
  os := ho
  tape := ht
  output := hu
  size := hs
  block := fun B hB _ => hb B hB
  foot := fun _ => .inl
  rng := fun b x hx => .inl ⟨b, x, hx, rfl⟩
  rep := ⟨fun b o hbo => let ⟨x, hx, hob⟩ := r.obj b o hbo; ⟨x, hx, hob.block (hb _ (r.lt b x hx))⟩, r.inj, fun b x hx => Nat.lt_of_lt_of_le (r.lt b x hx) hs, r.new⟩
/-- a block that nobody knew of yet becomes an object -/
theorem Step.realize {e0 : Env} {h0 : DHeap} {w0 : World} {e : Env} {h : DHeap} {w : World} (st : Step e0 h0 w0 e h w) {o : DObj} (x : Ent) (hx : x.blk < w.heap.size) (hx0 : w0.heap.size ≤ x.blk) (hf : ∀ b y, e b = some y → y.blk ≠ x.blk)
    (hobj : objAt (e.add h.next x) w x o) : Step e0 h0 w0 (e.add h.next x) (h.new o) w where
  le := st.le.trans (Env.le_add (st.rep.new _ (Nat.le_refl _)) x)
  os := st.os
  tape := st.tape
  output := st.output
  size := st.size
  block := st.block
  foot := fun B ⟨b, o', y, h1, h2, h3, h4⟩ => by
    rw [DHeap.get_new] at h1
    by_cases hc : b = h.next
    · unfold Env.add at h3
      rw [if_pos hc] at h3
      cases h3
      exact .inr (by omega)
    · rw [if_neg hc] at h1
      unfold Env.add at h3
      rw [if_neg hc] at h3
      exact st.foot B ⟨b, o', y, h1, h2, h3, h4⟩
  rng := fun b y hy => by
    unfold Env.add at hy
    by_cases hc : b = h.next
    · rw [if_pos hc] at hy
      cases hy
      exact .inr hx0
    · rw [if_neg hc] at hy
      exact st.rng b y hy
  rep := by
    have r := st.rep
    have hle := Env.le_add (r.new _ (Nat.le_refl _)) x
    refine ⟨fun b o' hb' => ?_, fun b b' o1 o2 y y' h1 h2 h3 h4 h5 => ?_, fun b y hy => ?_, fun b hb' => ?_⟩
    · rw [DHeap.get_new] at hb'
      by_cases hc : b = h.next
      · rw [if_pos hc] at hb'
        cases hb'
        exact ⟨x, by unfold Env.add; rw [if_pos hc], hobj⟩
      · rw [if_neg hc] at hb'
        obtain ⟨y, hy, hob⟩ := r.obj b o' hb'
        exact ⟨y, by unfold Env.add; rw [if_neg hc]; exact hy, hob.mono hle⟩
    · rw [DHeap.get_new] at h1 h2
      unfold Env.add at h3 h4
      by_cases hc : b = h.next
      · by_cases hc' : b' = h.next
        · omega
        · rw [if_pos hc] at h3
          rw [if_neg hc'] at h4
          cases h3
          exact absurd h5.symm (hf b' y' h4)
      · by_cases hc' : b' = h.next
        · rw [if_neg hc] at h3
          rw [if_pos hc'] at h4
          cases h4
          exact absurd h5 (hf b y h3)
        · rw [if_neg hc] at h1 h3
          rw [if_neg hc'] at h2 h4
          exact r.inj b b' o1 o2 y y' h1 h2 h3 h4 h5
    · unfold Env.add at hy
      by_cases hc : b = h.next
      · rw [if_pos hc] at hy
        cases hy
        exact hx
      · rw [if_neg hc] at hy
        exact r.lt b y hy
    · have hb'' : h.next + 1 ≤ b := hb'
      unfold Env.add
      rw [if_neg (by omega)]
      exact r.new b (by omega)
/-- an object given up: nothing in memory turns -/
theorem Rep.kill {e : Env} {h : DHeap} {w : World} (r : Rep e h w) (b : Nat) : Rep e (h.kill b) w where
  obj := fun c o hc => by
    rw [DHeap.get_kill] at hc
    by_cases hcb : c = b
    · rw [if_pos hcb] at hc; cases hc
    · rw [if_neg hcb] at hc; exact r.obj c o hc
  inj := fun c c' o1 o2 y y' h1 h2 h3 h4 h5 => by
    rw [DHeap.get_kill] at h1 h2
    by_cases hcb : c = b
    · rw [if_pos hcb] at h1; cases h1
    · by_cases hcb' : c' = b
      · rw [if_pos hcb'] at h2; cases h2
      · rw [if_neg hcb] at h1
        rw [if_neg hcb'] at h2
        exact r.inj c c' o1 o2 y y' h1 h2 h3 h4 h5
  lt := r.lt
  new := r.new
end Go.Dx
