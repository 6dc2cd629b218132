/- D: memory: new cells, loads, stores. -/
import Derived.Test.YtfdplefijefeiaaGreatDoorZ8
import Derived.Laws.NewBlocks
namespace Go.Dx
open Go

theorem cells_val {e : Env} {z : DV} {v : Value} (h : val e z = some v) : vals e z.cells = some v.cells.toList := by
  cases z with
  | agg cs =>
    simp only [val] at h
    cases hl : vals e cs with
    | none => simp [hl] at h
    | some l => simp only [hl, Option.some.injEq] at h; subst h; simpa [DV.cells, Value.cells] using hl
  | _ =>
    have hc : v.cells = #[v] := by
      simp only [val] at h
      first
      | (simp only [Option.some.injEq] at h; subst h; rfl)
      | (split at h <;> first | (simp only [Option.some.injEq] at h; subst h; rfl) | cases h)
    rw [hc]
    simp [DV.cells, vals, h]
theorem one_val {e : Env} {z : DV} {v : Value} (h : val e z = some v) (h1 : z.one = true) : v.oneCell' = true := by
  cases z with
  | agg cs => cases h1
  | tuple cs => cases h1
  | _ =>
    simp only [val] at h
    first
    | (simp only [Option.some.injEq] at h; subst h; rfl)
    | (split at h <;> first | (simp only [Option.some.injEq] at h; subst h; rfl) | cases h)
theorem ones_val {e : Env} : ∀ {zs : List DV} {vs : List Value}, vals e zs = some vs → zs.all DV.one = true → ∀ v ∈ vs, v.oneCell' = true
  | [], vs, h, _ => by simp [vals] at h; subst h; simp
  | z :: zs, vs, h, h1 => by
    obtain ⟨x, xs, rfl, hx, hxs⟩ := vals_cons h
    simp only [List.all_cons, Bool.and_eq_true] at h1
    intro v hv
    rcases List.mem_cons.1 hv with rfl | hv
    · exact one_val hx h1.1
    · exact ones_val hxs h1.2 v hv

theorem alloc_old (w : World) (o : Obj) {B : Nat} (hB : B < w.heap.size) : (w.alloc o).heap[B]? = w.heap[B]? := by
  show (w.heap.push o)[B]? = _
  rw [Array.getElem?_push, if_neg (by omega)]
theorem alloc_last (w : World) (o : Obj) : (w.alloc o).heap[w.heap.size]? = some o := by
  show (w.heap.push o)[w.heap.size]? = some o
  simp
/-- cells in a new block -/
theorem objAt_new {e : Env} {w' : World} {x : Ent} {cs : List DV} {rs more : List Value} {T : TypeId} {lo hi : Nat} (hv : vals e cs = some rs) (hb : w'.heap[x.blk]? = some (.cells (rs ++ more).toArray T (lo, hi))) (hz : x.base = 0) (hm : x.sp * x.sz ≤ more.length)
    (hf : lo = hi ∨ rs.length + more.length ≤ lo) : objAt e w' x (.cells cs false x.sz) := by
  have hl := vals_length hv
  have hc : ∀ j, w'.cell? ⟨x.blk, x.base + j, none⟩ = (rs ++ more)[j]? := fun j => by
    unfold World.cell?
    rw [hb, hz]
    simp
  refine ⟨rs, hv, fun j v hj => ?_, fun _ j hj => ⟨?_, ?_⟩, rfl, fun _ => ⟨_, _, _, _, hb, by simpa using hf⟩⟩
  · rw [hc, List.getElem?_append_left (List.getElem?_eq_some_iff.1 hj).1]; exact hj
  · rw [hc, List.getElem?_eq_getElem (by simp; omega)]; rfl
  · unfold World.frozen?
    rw [hb, hz]
    simp only [Nat.zero_add]
    by_cases h1 : lo ≤ j
    · by_cases h2 : j < hi
      · omega
      · simp [h2]
    · simp [h1]
theorem step_new_cells {e : Env} {h : DHeap} {w : World} (r : Rep e h w) {cs : List DV} {rs : List Value} (hv : vals e cs = some rs) (more : List Value) (T : TypeId) (sp sz : Nat) (hm : sp * sz ≤ more.length) :
    Step e h w (e.add h.next ⟨w.heap.size, 0, sp, sz⟩) (h.new (.cells cs false sz)) (w.alloc (.cells (rs ++ more).toArray T)) := by
  refine Step.new r ⟨w.heap.size, 0, sp, sz⟩ rfl (by simp) rfl rfl rfl (fun B hB => alloc_old w _ hB) ?_
  exact objAt_new (lo := 0) (hi := 0) (vals_mono (Env.le_add (r.new _ (Nat.le_refl _)) _) _ _ hv) (alloc_last w _) rfl hm (.inl rfl)
theorem add_ptr (e : Env) (b B o sp sz : Nat) : val (e.add b ⟨B, 0, sp, sz⟩) (.ptr b o) = some (.pointer (some ⟨B, o, none⟩)) := by
  have : (e.add b ⟨B, 0, sp, sz⟩) b = some ⟨B, 0, sp, sz⟩ := by simp [Env.add]
  simp [val, this]

/-- what is read -/
theorem load_cells {e : Env} {h : DHeap} {w : World} (r : Rep e h w) {b o n : Nat} {cs : List DV} (hl : loadD h b o n = some cs) : ∃ x rs, e b = some x ∧ vals e cs = some rs ∧ w.rangeAt x.blk (x.base + o) rs ∧ rs.length = n := by
  unfold loadD at hl
  split at hl
  · next c ro k hg =>
    split at hl
    · next hle =>
      cases hl
      obtain ⟨x, hx, hob⟩ := r.obj b _ hg
      obtain ⟨rs, hv, hr, _, _, _⟩ := hob
      have hlen := vals_length hv
      refine ⟨x, _, hx, vals_sub o n hv, fun j v hj => ?_, by simp; omega⟩
      have hjn : j < n := by
        have := (List.getElem?_eq_some_iff.1 hj).1
        simp at this; omega
      rw [List.getElem?_take_of_lt hjn, List.getElem?_drop] at hj
      rw [Nat.add_assoc]
      exact hr (o + j) v hj
    · cases hl
  · cases hl
/-- what is written -/
theorem setCells_heap (b : Nat) : ∀ (vs : List Value) (o : Nat) (w : World), (w.setCells b o vs).heap.size = w.heap.size ∧ (w.setCells b o vs).os = w.os ∧ (w.setCells b o vs).tape = w.tape ∧ (w.setCells b o vs).output = w.output ∧ ∀ B, B ≠ b → (w.setCells b o vs).heap[B]? = w.heap[B]?
  | [], _, _ => ⟨rfl, rfl, rfl, rfl, fun _ _ => rfl⟩
  | v :: r, o, w => by
    rw [World.setCells]
    obtain ⟨h1, h2, h3, h4, h5⟩ := setCells_heap b r (o + 1) (w.setCell ⟨b, o, none⟩ v)
    refine ⟨h1.trans (by simp [World.setCell]), h2, h3, h4, fun B hB => (h5 B hB).trans ?_⟩
    show (w.heap.modify b _)[B]? = _
    rw [Array.getElem?_modify, if_neg (fun e => hB e.symm)]
theorem setCells_row (b : Nat) : ∀ (vs : List Value) (o : Nat) (w : World) {c : Array Value} {T : TypeId} {f : Nat × Nat}, w.heap[b]? = some (.cells c T f) → ∃ c', (w.setCells b o vs).heap[b]? = some (.cells c' T f) ∧ c'.size = c.size
  | [], _, _, c, _, _, h => ⟨c, h, rfl⟩
  | v :: r, o, w, c, T, f, h => by
    rw [World.setCells]
    have h1 : (w.setCell ⟨b, o, none⟩ v).heap[b]? = some (.cells (c.setIfInBounds o v) T f) := by
      show (w.heap.modify b _)[b]? = _
      rw [Array.getElem?_modify, if_pos rfl, h]
      rfl
    obtain ⟨c', h2, h3⟩ := setCells_row b r (o + 1) _ h1
    exact ⟨c', h2, by rw [h3]; simp⟩
theorem Unfrozen.setCells {w : World} {B : Nat} (h : Unfrozen w B) (o : Nat) (vs : List Value) : Unfrozen (w.setCells B o vs) B := by
  obtain ⟨c, T, lo, hi, h1, h2⟩ := h
  obtain ⟨c', h3, h4⟩ := setCells_row B vs o w h1
  exact ⟨c', T, lo, hi, h3, by rw [h4]; exact h2⟩
theorem store_cells {e : Env} {h h' : DHeap} {w : World} (r : Rep e h w) {b o : Nat} {vs : List DV} {rs : List Value} (hv : vals e vs = some rs) (hs : storeD h b o vs = some h') :
    ∃ x, e b = some x ∧ w.there x.blk (x.base + o) rs.length ∧ (∀ v ∈ rs, v.oneCell' = true) ∧ Step e h w e h' (w.setCells x.blk (x.base + o) rs) := by
  unfold storeD at hs
  split at hs
  · next c k hg =>
    split at hs
    · next hle =>
      cases hs
      obtain ⟨x, hx, hob⟩ := r.obj b _ hg
      obtain ⟨cs, hc, hr, ht, hk, hun⟩ := hob
      have ht := ht rfl
      have hlv := vals_length hv
      have hlc := vals_length hc
      have hthere : w.there x.blk (x.base + o) rs.length := fun j hj => by
        have := ht (o + j) (by omega)
        rwa [← Nat.add_assoc] at this
      obtain ⟨k1, k2, k3, k4, k5⟩ := setCells_heap x.blk rs (x.base + o) w
      refine ⟨x, hx, hthere, ones_val hv hle.2, Step.put r hg rfl rfl hx k1 k2 k3 k4 k5 ⟨_, vals_put o hc hv, fun j v hj => ?_, fun _ j hj => ?_, hk, fun _ => (hun rfl).setCells _ _⟩⟩
      · by_cases h1 : j < o
        · rw [List.append_assoc, List.getElem?_append_left (by simp; omega), List.getElem?_take_of_lt h1] at hj
          rw [World.cell?_setCells_out x.blk rs (x.base + o) w _ (fun _ _ => .inl (by show x.base + j < _; omega))]
          exact hr j v hj
        · by_cases h2 : j < o + rs.length
          · rw [List.append_assoc, List.getElem?_append_right (by simp; omega), List.getElem?_append_left (by simp; omega)] at hj
            have hmin : min o cs.length = o := by omega
            simp only [List.length_take, hmin] at hj
            have := World.cell?_setCells_in x.blk rs (x.base + o) w (fun i hi => (hthere i hi).1) (j - o) (by omega)
            rw [show x.base + o + (j - o) = x.base + j by omega] at this
            rw [this, ← hj, List.getElem?_eq_getElem]
          · rw [List.getElem?_append_right (by simp; omega), List.getElem?_drop] at hj
            simp only [List.length_append, List.length_take] at hj
            rw [World.cell?_setCells_out x.blk rs (x.base + o) w _ (fun _ _ => .inr (by show _ ≤ x.base + j; omega))]
            refine hr j v ?_
            rw [← hj]
            congr 1
            omega
      · have hpl : (put c o vs).length = c.length := by simp [put]; omega
        rw [hpl] at hj
        have := ht j hj
        exact ⟨World.isSome_setCells _ _ _ _ _ this.1, by rw [World.frozen?_setCells]; exact this.2⟩
    · cases hs
  · cases hs
end Go.Dx
