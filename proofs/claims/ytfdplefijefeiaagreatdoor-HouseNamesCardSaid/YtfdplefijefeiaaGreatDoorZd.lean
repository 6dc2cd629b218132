/- D: append. -/
import Derived.Test.YtfdplefijefeiaaGreatDoorZc
import Derived.Deep.AppendSrc
namespace Go.Dx
open Go

theorem Step.ofKill {e e' : Env} {h h' : DHeap} {w w' : World} {b : Nat} (s : Step e (h.kill b) w e' h' w') : Step e h w e' h' w' := by
  have hsub : ∀ B, Foot e (h.kill b) B → Foot e h B := fun B ⟨c, o, x, h1, h2⟩ => by
    rw [DHeap.get_kill] at h1
    by_cases hc : c = b
    · rw [if_pos hc] at h1; cases h1
    · rw [if_neg hc] at h1; exact ⟨c, o, x, h1, h2⟩
  exact ⟨s.le, s.rep, s.os, s.tape, s.output, s.size, fun B hB hF => s.block B hB fun hF' => hF (hsub B hF'), fun B hF => (s.foot B hF).imp (hsub B) id, s.rng⟩
/-- an object given up, another one made in its very block -/
theorem Step.move {e : Env} {h : DHeap} {w w' : World} (r : Rep e h w) {b : Nat} {o o' : DObj} {x x' : Ent} (hg : h.get b = some o) (hro : o.ro = false) (hx : e b = some x) (hblk : x'.blk = x.blk)
    (hs : w'.heap.size = w.heap.size) (ho : w'.os = w.os) (ht : w'.tape = w.tape) (hu : w'.output = w.output) (hb : ∀ B, B ≠ x.blk → w'.heap[B]? = w.heap[B]?)
    (hobj : objAt (e.add h.next x') w' x' o') : Step e h w (e.add h.next x') ((h.kill b).new o') w' where
  le := Env.le_add (r.new _ (Nat.le_refl _)) x'
  os := ho
  tape := ht
  output := hu
  size := by omega
  block := fun B _ hF => hb B fun e' => hF ⟨b, o, x, hg, hro, hx, e'.symm⟩
  rng := fun c y hy => by
    unfold Env.add at hy
    by_cases hc : c = h.next
    · rw [if_pos hc] at hy
      cases hy
      exact .inl ⟨b, x, hx, hblk.symm⟩
    · rw [if_neg hc] at hy
      exact .inl ⟨c, y, hy, rfl⟩
  foot := fun B ⟨c, o1, y, h1, h2, h3, h4⟩ => by
    rw [DHeap.get_new] at h1
    have hnx : (h.kill b).next = h.next := rfl
    rw [hnx] at h1
    by_cases hc : c = h.next
    · unfold Env.add at h3
      rw [if_pos hc] at h3
      cases h3
      exact .inl ⟨b, o, x, hg, hro, hx, by rw [← h4, hblk]⟩
    · rw [if_neg hc, DHeap.get_kill] at h1
      unfold Env.add at h3
      rw [if_neg hc] at h3
      by_cases hcb : c = b
      · rw [if_pos hcb] at h1; cases h1
      · rw [if_neg hcb] at h1
        exact .inl ⟨c, o1, y, h1, h2, h3, h4⟩
  rep := by
    have hnx : (h.kill b).next = h.next := rfl
    have hle := Env.le_add (r.new _ (Nat.le_refl _)) x'
    have hold : ∀ c o1, ((h.kill b).new o').get c = some o1 → c ≠ h.next → h.get c = some o1 ∧ c ≠ b := fun c o1 hc hne => by
      rw [DHeap.get_new, hnx, if_neg hne, DHeap.get_kill] at hc
      by_cases hcb : c = b
      · rw [if_pos hcb] at hc; cases hc
      · rw [if_neg hcb] at hc; exact ⟨hc, hcb⟩
    refine ⟨fun c o1 hc => ?_, fun c c' o1 o2 y y' h1 h2 h3 h4 h5 => ?_, fun c y hy => ?_, fun c hc => ?_⟩
    · by_cases hcn : c = h.next
      · rw [DHeap.get_new, hnx, if_pos hcn] at hc
        cases hc
        exact ⟨x', by unfold Env.add; rw [if_pos hcn], hobj⟩
      · obtain ⟨h1, h2⟩ := hold c o1 hc hcn
        obtain ⟨y, hy, hob⟩ := r.obj c o1 h1
        exact ⟨y, hle _ _ hy, (hob.mono hle).block (hb _ fun e' => h2 (r.inj c b o1 o y x h1 hg hy hx e'))⟩
    · unfold Env.add at h3 h4
      by_cases hcn : c = h.next
      · by_cases hcn' : c' = h.next
        · omega
        · rw [if_pos hcn] at h3
          rw [if_neg hcn'] at h4
          cases h3
          obtain ⟨k1, k2⟩ := hold c' o2 h2 hcn'
          exact absurd (r.inj c' b o2 o y' x k1 hg h4 hx (by rw [← h5, hblk])) k2
      · by_cases hcn' : c' = h.next
        · rw [if_neg hcn] at h3
          rw [if_pos hcn'] at h4
          cases h4
          obtain ⟨k1, k2⟩ := hold c o1 h1 hcn
          exact absurd (r.inj c b o1 o y x k1 hg h3 hx (by rw [h5, hblk])) k2
        · rw [if_neg hcn] at h3
          rw [if_neg hcn'] at h4
          exact r.inj c c' o1 o2 y y' (hold c o1 h1 hcn).1 (hold c' o2 h2 hcn').1 h3 h4 h5
    · unfold Env.add at hy
      by_cases hcn : c = h.next
      · rw [if_pos hcn] at hy
        cases hy
        rw [hs, hblk]
        exact r.lt b x hx
      · rw [if_neg hcn] at hy
        rw [hs]; exact r.lt c y hy
    · have hc' : h.next + 1 ≤ c := hc
      unfold Env.add
      rw [if_neg (by omega)]
      exact r.new c (by omega)

section
variable {P : Program} {e : Env} {t : Fr} {a : Act} {h : DHeap} {w : World} {o : Oper} {D : DProg} {nx : Nx}

/-- the cells of a slice, at the address that the model has -/
theorem cells_at {w : World} {x : Ent} {o' z cap n sz : Nat} {tg : Bool} {rs : List Value} (hr : w.rangeAt x.blk (x.base + o') rs) (hlen : rs.length = n * sz) (hlc : n ≤ cap) :
    ∀ j u, rs[j]? = some u → w.cell? ((⟨x.blk, x.base + (if (if tg = true then cap else cap + x.sp) = 0 then z else o'), none⟩ : Addr).add j) = some u := fun j u hj => by
  have hjl := (List.getElem?_eq_some_iff.1 hj).1
  have hn : n ≠ 0 := fun e => by rw [e] at hlen; simp at hlen; rw [hlen] at hjl; simp at hjl
  rw [if_neg (by cases tg <;> simp <;> omega), Addr.add_mid]
  exact hr j u hj
/-- what is appended -/
theorem src_ok {sz m : Nat} {y : DV} {vy : Value} {tx : TypeId} {new : List DV} (r : Rep e h w) (hy : val e y = some vy) (hk : (∃ e', P.underlying tx = some (.slice e')) ∨ P.underlying tx = some .string) (hl : lenD y = some m) (hs : srcD h sz m y = some new) (h1 : new.all DV.one = true) :
    ∃ rs, vals e new = some rs ∧ Src P sz tx vy m rs w := by
  cases y with
  | nilSlice =>
    simp only [lenD, Option.some.injEq] at hl
    simp only [srcD, Option.some.injEq] at hs
    subst hl; subst hs
    simp only [val, Option.some.injEq] at hy
    subst hy
    exact ⟨[], rfl, hk, fun _ => rfl, run_firstCells_none w sz 0 0 0, run_firstCells_none w.drew sz 0 0 0, by simp, fun _ h => by cases h⟩
  | slice b o' z len cap tg =>
    simp only [lenD, Option.some.injEq] at hl
    subst hl
    simp only [srcD] at hs
    split at hs
    case isFalse => cases hs
    next hlc =>
    obtain ⟨x, rs, hx, hv, hr, hlen⟩ := load_cells r hs
    obtain ⟨x', hx', hvy⟩ := slice_val hy
    rw [hx] at hx'
    cases hx'
    have hcell : ∀ j u, rs[j]? = some u → w.cell? ((⟨x.blk, x.base + (if (if tg = true then cap else cap + x.sp) = 0 then z else o'), none⟩ : Addr).add j) = some u := cells_at hr hlen hlc
    exact ⟨rs, hv, hk, by rw [hvy]; exact fun _ => rfl, by rw [hvy]; exact run_firstCells_some w sz len _ len _ rs hlen hcell, by rw [hvy]; exact run_firstCells_some w.drew sz len _ len _ rs hlen (by simpa using hcell), hlen, ones_val hv h1⟩
  | str s =>
    simp only [lenD, Option.some.injEq] at hl
    subst hl
    simp only [srcD] at hs
    split at hs
    · next hsz =>
      subst hsz
      simp only [Option.some.injEq, List.take_length] at hs
      subst hs
      simp only [val, Option.some.injEq] at hy
      subst hy
      have hv : vals e (s.map fun b => DV.int .u8 b.toNat) = some (byteCells ⟨s.toArray⟩) := by
        unfold byteCells
        show vals e (s.map fun b => DV.int .u8 b.toNat) = some (s.map fun b => Value.int .u8 b.toNat)
        clear h1
        induction s with
        | nil => rfl
        | cons b s ih => exact vals_cons_of rfl ih
      have := Src.ofString (P := P) w (tx := tx)
      refine ⟨_, hv, hk, fun _ => ?_, ?_, ?_, ?_, ones_val hv h1⟩
      · show Result.ok _ _ = _; rw [size_list]
      · have := firstCells_string (P := P) ⟨s.toArray⟩ w; rwa [size_list] at this
      · have := firstCells_string (P := P) ⟨s.toArray⟩ w.drew; rwa [size_list] at this
      · rw [byteCells_length, size_list]; omega
    · cases hs
  | _ => simp [lenD] at hl

theorem Src.one {sz n : Nat} {tx : TypeId} {x : Value} {rs : List Value} (s : Src P sz tx x n rs w) : ∀ v ∈ rs, v.oneCell' = true := s.one
set_option maxHeartbeats 1000000 in
theorem append_ok {sz bytes : Nat} {x y v : DV} {vx vy : Value} {T tx ty el : TypeId} {i : TypeInfo} {zv : Value} {h' : DHeap} (r : Rep e h w) (hx : val e x = some vx) (hy : val e y = some vy) (hT : P.underlying T = some (.slice el)) (hk : (∃ e', P.underlying tx = some (.slice e')) ∨ P.underlying tx = some .string)
    (hi : P.info? el = some i) (hsz : i.size = sz) (hby : i.bytes = bytes) (hz : i.zero = some zv) (hzs : zv.cells.size = sz) (ha : appendD h sz bytes x y = some (v, h')) :
    ∃ e' w' rv, Step e h w e' h' w' ∧ (Builtin.append_ #[T, tx] ty #[vx, vy]).run P w = .ok rv w' ∧ val e' v = some rv := by
  unfold appendD at ha
  split at ha
  · cases ha
  next m hm =>
  split at ha
  · cases ha
  next new hnew =>
  split at ha
  · cases ha
  next hone =>
  have hone : new.all DV.one = true := by simpa using hone
  obtain ⟨rs, hrs, hsrc⟩ := src_ok (P := P) (tx := tx) r hy hk hm hnew hone
  have hrl := vals_length hrs
  have hge : ∀ need old, need ≤ grownCap w need old el := fun need old => grownCap_ge w need old el
  subst hsz hby
  split at ha
  · -- nil
    simp only [val, Option.some.injEq] at hx
    subst hx
    split at ha
    · next hm0 =>
      cases ha
      subst hm0
      refine ⟨e, w, .slice none 0 0, Step.refl r, ?_, rfl⟩
      rcases hk with ⟨e', hk⟩ | hk <;> simp [Builtin.append_, run_underlying hT, run_underlying hk, sizeOf, typeInfo, hi, hsrc.len, hsrc.cells]
    · next hm0 =>
      split at ha
      · next hb =>
        cases ha
        have hr := run_append_grow_src w T tx ty el i zv hT hi hz none 0 0 [] (run_firstCells_none _ _ _ _ _) vy m rs hsrc (by omega) (by omega) (growslice_fits (by omega) (by rw [Nat.zero_add]; omega))
        simp only [Nat.zero_add, List.nil_append] at hr
        have hst : Step e h w (e.add h.next ⟨w.heap.size, 0, grownCap w m 0 el - m, i.size⟩) (h.new (.cells new false i.size)) (w.drew.alloc (.cells (rs.toArray ++ Builtin.zeroCells zv.cells (grownCap w m 0 el - m)) el)) := by
          refine Step.new r ⟨w.heap.size, 0, _, _⟩ rfl (by simp) rfl rfl rfl (fun B hB => alloc_old w.drew _ hB) ?_
          refine objAt_new (rs := rs) (more := (Builtin.zeroCells zv.cells (grownCap w m 0 el - m)).toList) (T := el) (lo := 0) (hi := 0) (vals_mono (Env.le_add (r.new _ (Nat.le_refl _)) _) _ _ hrs) ?_ rfl ?_ (.inl rfl)
          · have := alloc_last w.drew (.cells (rs.toArray ++ Builtin.zeroCells zv.cells (grownCap w m 0 el - m)) el)
            rw [show (rs ++ (Builtin.zeroCells zv.cells (grownCap w m 0 el - m)).toList).toArray = rs.toArray ++ Builtin.zeroCells zv.cells (grownCap w m 0 el - m) by apply Array.ext'; simp]
            exact this
          · simp [size_zeroCells, hzs]
        refine ⟨_, _, _, hst, hr, ?_⟩
        simp only [val, Env.add, if_true, Bool.false_eq_true, if_false]
        have h1 := hge m 0
        rw [show m + (grownCap w m 0 el - m) = grownCap w m 0 el by omega]
        simp
      · cases ha
  · -- a slice
    next b o' z len cap tg =>
    obtain ⟨y, hyb, hvx⟩ := slice_val hx
    obtain ⟨c, hc⟩ : ∃ c, c = (if tg = true then cap else cap + y.sp) := ⟨_, rfl⟩
    rw [← hc] at hvx
    have hcc : cap ≤ c := by rw [hc]; split <;> omega
    split at ha
    · next hroom =>
      split at ha
      · next hm0 =>
        cases ha
        subst hm0
        have hrs0 : rs = [] := List.length_eq_zero_iff.1 (by rw [hsrc.newsLen]; simp)
        subst hrs0
        have := run_append_room_src w T tx ty el i hT hi y.blk (y.base + (if c = 0 then z else o')) len c vy 0 [] hsrc (by omega) (by simp) (by simp)
        rw [← hvx] at this
        exact ⟨e, w, vx, Step.refl r, by rw [this, hvx]; rfl, hx⟩
      · next hm0 =>
        split at ha
        · next h1 hst =>
          cases ha
          obtain ⟨y', hy', hth, _, hstep⟩ := store_cells r hrs hst
          rw [hyb] at hy'
          cases hy'
          have hc0 : c ≠ 0 := by omega
          have := run_append_room_src w T tx ty el i hT hi y.blk (y.base + o') len c vy m rs hsrc (by omega)
            (fun j hj => by have := (hth j hj).1; rwa [← Nat.add_assoc] at this) (fun j hj => by have := (hth j hj).2; rwa [← Nat.add_assoc] at this)
          rw [if_neg hc0] at hvx
          rw [← hvx] at this
          rw [Nat.add_assoc] at this
          refine ⟨e, _, _, hstep, this, ?_⟩
          simp only [val, hyb, ← hc]
          rw [if_neg hc0]
        · cases ha
    · next hroom =>
      split at ha
      · next hbd =>
        split at ha
        · cases ha
        · next old hold =>
          split at hold
          case isFalse => cases hold
          next hlc =>
          obtain ⟨y', os, hy', hov, hor, hol⟩ := load_cells r hold
          rw [hyb] at hy'
          cases hy'
          have hcells := cells_at (tg := tg) (z := z) hor hol hlc
          rw [← hc] at hcells
          have hfc : (Builtin.firstCells i.size len (.slice (some ⟨y.blk, y.base + (if c = 0 then z else o'), none⟩) len c)).run P w.drew = .ok os.toArray w.drew := run_firstCells_some w.drew i.size len _ len c os hol (by simpa using hcells)
          -- the arm that grows
          have hgrow : c < len + m → ∃ e' w' rv, Step e h w e' (h.new (.cells (old ++ new) false i.size)) w' ∧ (Builtin.append_ #[T, tx] ty #[vx, vy]).run P w = .ok rv w' ∧ val e' (.slice h.next 0 0 (len + m) (len + m) false) = some rv := fun hg => by
            have hr := run_append_grow_src w T tx ty el i zv hT hi hz _ len c os hfc vy m rs hsrc hg (by omega) (growslice_fits hg (by omega))
            rw [← hvx] at hr
            have hst : Step e h w (e.add h.next ⟨w.heap.size, 0, grownCap w (len + m) c el - (len + m), i.size⟩) (h.new (.cells (old ++ new) false i.size)) (w.drew.alloc (.cells ((os ++ rs).toArray ++ Builtin.zeroCells zv.cells (grownCap w (len + m) c el - (len + m))) el)) := by
              refine Step.new r ⟨w.heap.size, 0, _, _⟩ rfl (by simp) rfl rfl rfl (fun B hB => alloc_old w.drew _ hB) ?_
              refine objAt_new (rs := os ++ rs) (more := (Builtin.zeroCells zv.cells (grownCap w (len + m) c el - (len + m))).toList) (T := el) (lo := 0) (hi := 0) (vals_mono (Env.le_add (r.new _ (Nat.le_refl _)) _) _ _ (vals_append hov hrs)) ?_ rfl ?_ (.inl rfl)
              · have := alloc_last w.drew (.cells ((os ++ rs).toArray ++ Builtin.zeroCells zv.cells (grownCap w (len + m) c el - (len + m))) el)
                rw [show (os ++ rs ++ (Builtin.zeroCells zv.cells (grownCap w (len + m) c el - (len + m))).toList).toArray = (os ++ rs).toArray ++ Builtin.zeroCells zv.cells (grownCap w (len + m) c el - (len + m)) by apply Array.ext'; simp]
                exact this
              · simp [size_zeroCells, hzs]
            refine ⟨_, _, _, hst, hr, ?_⟩
            simp only [val, Env.add, if_true, Bool.false_eq_true, if_false]
            have h1 := hge (len + m) c
            rw [show len + m + (grownCap w (len + m) c el - (len + m)) = grownCap w (len + m) c el by omega]
            simp
          split at ha
          · next htg =>
            cases ha
            subst htg
            exact hgrow (by rw [hc]; simp; omega)
          · next htg =>
            split at ha
            · next hrow =>
              cases ha
              have htg : tg = false := by simpa using htg
              subst htg
              simp only [Bool.false_eq_true, if_false] at hc
              by_cases hg : c < len + m
              · -- a new row
                have hk' := r.kill b
                have hr := run_append_grow_src w T tx ty el i zv hT hi hz _ len c os hfc vy m rs hsrc hg (by omega) (growslice_fits hg (by omega))
                rw [← hvx] at hr
                have hst : Step e (h.kill b) w (e.add h.next ⟨w.heap.size, 0, grownCap w (len + m) c el - (len + m), i.size⟩) ((h.kill b).new (.cells (old ++ new) false i.size)) (w.drew.alloc (.cells ((os ++ rs).toArray ++ Builtin.zeroCells zv.cells (grownCap w (len + m) c el - (len + m))) el)) := by
                  refine Step.new hk' ⟨w.heap.size, 0, _, _⟩ rfl (by simp) rfl rfl rfl (fun B hB => alloc_old w.drew _ hB) ?_
                  refine objAt_new (rs := os ++ rs) (more := (Builtin.zeroCells zv.cells (grownCap w (len + m) c el - (len + m))).toList) (T := el) (lo := 0) (hi := 0) (vals_mono (Env.le_add (r.new _ (Nat.le_refl _)) _) _ _ (vals_append hov hrs)) ?_ rfl ?_ (.inl rfl)
                  · have := alloc_last w.drew (.cells ((os ++ rs).toArray ++ Builtin.zeroCells zv.cells (grownCap w (len + m) c el - (len + m))) el)
                    rw [show (os ++ rs ++ (Builtin.zeroCells zv.cells (grownCap w (len + m) c el - (len + m))).toList).toArray = (os ++ rs).toArray ++ Builtin.zeroCells zv.cells (grownCap w (len + m) c el - (len + m)) by apply Array.ext'; simp]
                    exact this
                  · simp [size_zeroCells, hzs]
                refine ⟨_, _, _, hst.ofKill, hr, ?_⟩
                have hnx : (h.kill b).next = h.next := rfl
                simp only [val, Env.add, hnx, if_true, Bool.false_eq_true, if_false]
                have h1 := hge (len + m) c
                rw [show len + m + (grownCap w (len + m) c el - (len + m)) = grownCap w (len + m) c el by omega]
                simp
              · -- in place
                unfold rowIs at hrow
                split at hrow
                case h_2 => cases hrow
                next cs k hgb =>
                simp only [Bool.and_eq_true, decide_eq_true_eq] at hrow
                obtain ⟨hrow, hks⟩ := hrow
                subst hks
                obtain ⟨y', hy', hob⟩ := r.obj b _ hgb
                rw [hyb] at hy'
                cases hy'
                obtain ⟨qs, hqv, hqr, hqt, hysz, hun⟩ := hob
                have hqt := hqt rfl
                have hc0 : c ≠ 0 := by omega
                rw [if_neg hc0] at hvx
                have hmul : (len + m) * i.size ≤ (cap + y.sp) * i.size := Nat.mul_le_mul_right _ (by omega)
                rw [Nat.add_mul, Nat.add_mul] at hmul
                have hnl := hsrc.newsLen
                have hth : ∀ j, j < rs.length → (w.cell? ⟨y.blk, y.base + o' + len * i.size + j, none⟩).isSome = true ∧ w.frozen? ⟨y.blk, y.base + o' + len * i.size + j, none⟩ = false := fun j hj => by
                  have := hqt (o' + len * i.size + j) (by rw [hysz, hrow]; omega)
                  rwa [show y.base + (o' + len * i.size + j) = y.base + o' + len * i.size + j by omega] at this
                have hr := run_append_room_src w T tx ty el i hT hi y.blk (y.base + o') len c vy m rs hsrc (by omega) (fun j hj => (hth j hj).1) (fun j hj => (hth j hj).2)
                rw [← hvx] at hr
                obtain ⟨k1, k2, k3, k4, k5⟩ := setCells_heap y.blk rs (y.base + o' + len * i.size) w
                have hst : Step e h w (e.add h.next ⟨y.blk, y.base + o', c - (len + m), i.size⟩) ((h.kill b).new (.cells (old ++ new) false i.size)) (w.setCells y.blk (y.base + o' + len * i.size) rs) := by
                  refine Step.move r hgb rfl hyb rfl k1 k2 k3 k4 k5 ⟨os ++ rs, vals_mono (Env.le_add (r.new _ (Nat.le_refl _)) _) _ _ (vals_append hov hrs), fun j v hj => ?_, fun _ j hj => ?_, rfl, fun _ => (hun rfl).setCells _ _⟩
                  · by_cases hjo : j < os.length
                    · rw [List.getElem?_append_left hjo] at hj
                      show (w.setCells _ _ _).cell? ⟨y.blk, y.base + o' + j, none⟩ = some v
                      rw [World.cell?_setCells_out y.blk rs _ w _ (fun _ _ => .inl (by show y.base + o' + j < _; omega))]
                      exact hor j v hj
                    · rw [List.getElem?_append_right (by omega)] at hj
                      have hjl := (List.getElem?_eq_some_iff.1 hj).1
                      have := World.cell?_setCells_in y.blk rs (y.base + o' + len * i.size) w (fun j hj => (hth j hj).1) (j - os.length) hjl
                      show (w.setCells _ _ _).cell? ⟨y.blk, y.base + o' + j, none⟩ = some v
                      rw [show y.base + o' + len * i.size + (j - os.length) = y.base + o' + j by omega] at this
                      rw [this, ← hj, List.getElem?_eq_getElem]
                  · have hlen2 : (old ++ new).length = (len + m) * i.size := by rw [List.length_append, ← vals_length hov, ← hrl, hol, hnl, Nat.add_mul]
                    have hj' : j < (old ++ new).length + (c - (len + m)) * i.size := hj
                    rw [hlen2, ← Nat.add_mul, show len + m + (c - (len + m)) = c by omega, hc, Nat.add_mul] at hj'
                    have := hqt (o' + j) (by rw [hysz, hrow]; omega)
                    rw [← Nat.add_assoc] at this
                    exact ⟨World.isSome_setCells _ _ _ _ _ this.1, by rw [World.frozen?_setCells]; exact this.2⟩
                refine ⟨_, _, _, hst, hr, ?_⟩
                have hnx : (h.kill b).next = h.next := rfl
                simp only [val, Env.add, hnx, if_true, Bool.false_eq_true, if_false, hvx]
                rw [show len + m + (c - (len + m)) = c by omega]
                simp [hc0]
            · cases ha
      · cases ha
  · -- a clipped slice
    next b o' z =>
    obtain ⟨y, hyb, hvx⟩ : ∃ y, e b = some y ∧ vx = .slice (some ⟨y.blk, y.base + (if y.sp = 0 then z else o'), none⟩) 0 0 := by
      cases hb : e b with
      | none => simp [val, hb] at hx
      | some y => simp only [val, hb, Option.some.injEq] at hx; exact ⟨y, rfl, hx.symm⟩
    split at ha
    · next hm0 =>
      cases ha
      subst hm0
      have hrs0 : rs = [] := List.length_eq_zero_iff.1 (by rw [hsrc.newsLen]; simp)
      subst hrs0
      have := run_append_room_src w T tx ty el i hT hi y.blk (y.base + (if y.sp = 0 then z else o')) 0 0 vy 0 [] hsrc (by omega) (by simp) (by simp)
      rw [← hvx] at this
      exact ⟨e, w, vx, Step.refl r, by rw [this, hvx]; rfl, hx⟩
    · next hm0 =>
      split at ha
      · next hb =>
        cases ha
        have hfc : (Builtin.firstCells i.size 0 (.slice (some ⟨y.blk, y.base + (if y.sp = 0 then z else o'), none⟩) 0 0)).run P w.drew = .ok ([] : List Value).toArray w.drew := run_firstCells_some w.drew i.size 0 _ 0 0 [] (by simp) (by simp)
        have hr := run_append_grow_src w T tx ty el i zv hT hi hz _ 0 0 [] hfc vy m rs hsrc (by omega) (by omega) (growslice_fits (by omega) (by rw [Nat.zero_add]; omega))
        rw [← hvx] at hr
        simp only [Nat.zero_add, List.nil_append] at hr
        have hst : Step e h w (e.add h.next ⟨w.heap.size, 0, grownCap w m 0 el - m, i.size⟩) (h.new (.cells new false i.size)) (w.drew.alloc (.cells (rs.toArray ++ Builtin.zeroCells zv.cells (grownCap w m 0 el - m)) el)) := by
          refine Step.new r ⟨w.heap.size, 0, _, _⟩ rfl (by simp) rfl rfl rfl (fun B hB => alloc_old w.drew _ hB) ?_
          refine objAt_new (rs := rs) (more := (Builtin.zeroCells zv.cells (grownCap w m 0 el - m)).toList) (T := el) (lo := 0) (hi := 0) (vals_mono (Env.le_add (r.new _ (Nat.le_refl _)) _) _ _ hrs) ?_ rfl ?_ (.inl rfl)
          · have := alloc_last w.drew (.cells (rs.toArray ++ Builtin.zeroCells zv.cells (grownCap w m 0 el - m)) el)
            rw [show (rs ++ (Builtin.zeroCells zv.cells (grownCap w m 0 el - m)).toList).toArray = rs.toArray ++ Builtin.zeroCells zv.cells (grownCap w m 0 el - m) by apply Array.ext'; simp]
            exact this
          · simp [size_zeroCells, hzs]
        refine ⟨_, _, _, hst, hr, ?_⟩
        simp only [val, Env.add, if_true, Bool.false_eq_true, if_false]
        have h1 := hge m 0
        rw [show m + (grownCap w m 0 el - m) = grownCap w m 0 el by omega]
        simp
      · cases ha
  · cases ha
end
end Go.Dx
