/- What stands for functions that are not walked: by their contracts. -/
import Derived.Test.YtfdplefijefeiaaGreatDoorNS0
import Derived.Test.YtfdplefijefeiaaGreatDoorNSs
import Derived.Test.YtfdplefijefeiaaGreatDoorZ12
import Derived.Test.YtfdplefijefeiaaGreatDoorND
import Derived.Lib.Bytealg
namespace Go.Proofs.YtfdplefijefeiaaGreatDoor
open Go.Dx Go.Proofs Go.RowKit

def SpecOk (P : Program) (f : Nat) (s : List DV → DHeap → Option (DV × DHeap)) : Prop :=
  ∀ (e : Env) (h : DHeap) (w : World) (args : List DV) (v : DV) (h' : DHeap) (rargs : Array Value), s args h = some (v, h') → Glob P e → Rep e h w → vals e args = some rargs.toList →
    (∃ f' args', (callFunc f rargs).run P w = .ok (.enter f' args') w ∧ Calls P f' args' w fun en w' => ∃ e' rv, en = .returned rv ∧ Step e h w e' h' w' ∧ val e' v = some rv) ∨
    (∃ rv e' w', (callFunc f rargs).run P w = .ok (.value rv) w' ∧ Step e h w e' h' w' ∧ val e' v = some rv)

theorem step_below {e : Env} {h : DHeap} {w w' : World} (r : Rep e h w) (hb : Below w.heap.size w w') : Step e h w e h w' := Step.grow r hb.size hb.os hb.tape hb.output hb.block
theorem load_one {e : Env} {h : DHeap} {w : World} (r : Rep e h w) {b o : Nat} {d : DV} (hl : loadD h b o 1 = some [d]) : ∃ x v, e b = some x ∧ val e d = some v ∧ w.cell? ⟨x.blk, x.base + o, none⟩ = some v := by
  obtain ⟨x, rs, hx, hv, hr, _⟩ := load_cells r hl
  obtain ⟨v, vs, rfl, h1, _⟩ := vals_cons hv
  exact ⟨x, v, hx, h1, by have := hr 0 v rfl; rwa [Nat.add_zero] at this⟩

theorem sFirst_ok : SpecOk Tryz.prog 133 sFirst := by
  intro e h w args v h' rargs hs hg r hv
  unfold sFirst at hs
  split at hs
  · next hh b o s =>
    split at hs
    · next b2 o2 hl =>
      split at hs
      · next hl2 =>
        cases hs
        obtain ⟨x, p, hx, hp, hc⟩ := load_one r hl
        obtain ⟨y, q, hy, hq, hc2⟩ := load_one r hl2
        obtain ⟨a1, tl, hra, ha1, has⟩ := vals_cons hv
        obtain ⟨a2, tl2, rfl, ha2, has2⟩ := vals_cons has
        simp only [vals, Option.some.injEq] at has2
        subst has2
        simp only [val, hx, Option.some.injEq] at ha1
        simp only [val, Option.some.injEq] at ha2 hq
        simp only [val, hy, Option.some.injEq] at hp
        subst hp hq
        obtain rfl : rargs = #[a1, a2] := by apply Array.toList_inj.1; rw [hra]
        subst ha1 ha2
        refine .inl ⟨133, _, enters_of Tryz.func133 (by kernel_rfl) rfl _ _, ?_⟩
        refine (first_empty x.blk (x.base + o) y.blk (y.base + o2) _ w (by rw [Nat.add_assoc]; exact hc) hc2).mono ?_
        rintro en w' ⟨rfl, hb⟩
        exact ⟨e, _, rfl, step_below r hb, rfl⟩
      · cases hs
    · cases hs
  · cases hs

theorem sIdxByte_ok : SpecOk Tryz.prog 211 sIdxByte := by
  intro e h w args v h' rargs hs hg r hv
  have hx := @run_callFunc_extern Tryz.prog 211 _ Extern.BytealgIndexByte.indexByte Tryz.func211 (by kernel_rfl) (by kernel_rfl) (by kernel_rfl) (by kernel_rfl)
  unfold sIdxByte at hs
  split at hs
  · next hh s c =>
    cases hs
    obtain ⟨a1, tl, hra, ha1, has⟩ := vals_cons hv
    obtain ⟨a2, tl2, rfl, ha2, has2⟩ := vals_cons has
    simp only [vals, Option.some.injEq] at has2
    subst has2
    simp only [val, Option.some.injEq] at ha1 ha2
    obtain rfl : rargs = #[a1, a2] := by apply Array.toList_inj.1; rw [hra]
    subst ha1 ha2
    refine .inr ⟨.int .i64 (Lib.indexByte s c.toNat.toUInt8), e, w, ?_, Step.refl r, rfl⟩
    rw [hx, Lib.run_indexByteString]
    rfl
  · cases hs
theorem sCount_ok : SpecOk Tryz.prog 255 sCount := by
  intro e h w args v h' rargs hs hg r hv
  have hx := @run_callFunc_extern Tryz.prog 255 _ Extern.BytealgCount.count Tryz.func255 (by kernel_rfl) (by kernel_rfl) (by kernel_rfl) (by kernel_rfl)
  unfold sCount at hs
  split at hs
  · next hh s c =>
    cases hs
    obtain ⟨a1, tl, hra, ha1, has⟩ := vals_cons hv
    obtain ⟨a2, tl2, rfl, ha2, has2⟩ := vals_cons has
    simp only [vals, Option.some.injEq] at has2
    subst has2
    simp only [val, Option.some.injEq] at ha1 ha2
    obtain rfl : rargs = #[a1, a2] := by apply Array.toList_inj.1; rw [hra]
    subst ha1 ha2
    refine .inr ⟨.int .i64 (Lib.countByte s c.toNat.toUInt8), e, w, ?_, Step.refl r, rfl⟩
    rw [hx, Lib.run_countString]
    rfl
  · cases hs

theorem idxD_eq (sub : List UInt8) : ∀ l, idxD sub l = Lib.index l sub
  | [] => rfl
  | b :: l => by
    unfold idxD Lib.index
    rw [idxD_eq sub l]
    have hge := Lib.index_ge l sub
    split
    · rfl
    · cases hi : Lib.index l sub with
      | ofNat n =>
        simp only []
        rw [if_neg (by simp)]
        rfl
      | negSucc n =>
        rw [hi] at hge
        have : n = 0 := by omega
        subst this
        rfl
theorem cells_of {e : Env} {h : DHeap} {w : World} (r : Rep e h w) {b o n : Nat} {cs : List DV} {l : List UInt8} (hl : loadD h b o n = some cs) (hb : bytesOfD cs = some l) : ∃ x, e b = some x ∧ l.length = n ∧ ∀ i, i < n → w.cell? ((⟨x.blk, x.base + o, none⟩ : Addr).add i) = some (.int .u8 ((l.map fun b => (b.toNat : Int)).getD i 0)) := by
  obtain ⟨x, rs, hx, hv, hr, hlen⟩ := load_cells r hl
  have hrs := bytesOf_ok hb hv
  have hll : l.length = n := by rw [← hlen, hrs]; simp
  refine ⟨x, hx, hll, fun i hi => ?_⟩
  rw [Lib.add_plain']
  refine hr i _ ?_
  rw [hrs, List.getElem?_map, List.getElem?_eq_getElem (by omega)]
  simp [List.getD, List.getElem?_map, List.getElem?_eq_getElem (show i < l.length by omega)]
theorem sIndex_ok : SpecOk Tryz.prog 152 sIndex := by
  intro e h w args v h' rargs hs hg r hv
  unfold sIndex at hs
  split at hs
  · next hh b2 o2 z2 k c2 t2 =>
    split at hs
    · next hk =>
      cases hs
      obtain ⟨a1, tl, hra, ha1, has⟩ := vals_cons hv
      obtain ⟨a2, tl2, rfl, ha2, has2⟩ := vals_cons has
      simp only [vals, Option.some.injEq] at has2
      subst has2
      simp only [val, Option.some.injEq] at ha1
      obtain ⟨y, hy, hay⟩ := slice_val ha2
      obtain rfl : rargs = #[a1, a2] := by apply Array.toList_inj.1; rw [hra]
      subst ha1 hay
      refine .inl ⟨152, _, enters_of Tryz.func152 (by kernel_rfl) rfl _ _, ?_⟩
      refine (Tryz.bytes_Index_nil _ k _ w hk.2 (fun h1 => by omega)).mono ?_
      rintro en w' ⟨rfl, rfl⟩
      rw [if_neg (by omega)]
      exact ⟨e, _, rfl, Step.refl r, rfl⟩
    · cases hs
  · next hh b o z n c t b2 o2 z2 k c2 t2 =>
    split at hs
    · next hk =>
      cases hs
      obtain ⟨a1, tl, hra, ha1, has⟩ := vals_cons hv
      obtain ⟨a2, tl2, rfl, ha2, has2⟩ := vals_cons has
      simp only [vals, Option.some.injEq] at has2
      subst has2
      obtain ⟨x, hx, hax⟩ := slice_val ha1
      obtain ⟨y, hy, hay⟩ := slice_val ha2
      obtain rfl : rargs = #[a1, a2] := by apply Array.toList_inj.1; rw [hra]
      subst hax hay
      refine .inl ⟨152, _, enters_of Tryz.func152 (by kernel_rfl) rfl _ _, ?_⟩
      refine (Go.Proofs.Any.bytes_Index_longer Tryz.lays185 _ _ n _ k _ w hk.1 hk.2.1 hk.2.2).mono ?_
      rintro en w' ⟨rfl, rfl⟩
      exact ⟨e, _, rfl, Step.refl r, rfl⟩
    · next hnk =>
    split at hs
    · next hk =>
      obtain ⟨k1, k2, k3, k4, k5, k6⟩ := hk
      split at hs
      · next xs ys m hl1 hl2 hl3 =>
        split at hs
        · next a s hb1 hb2 =>
          cases hs
          obtain ⟨a1, tl, hra, ha1, has⟩ := vals_cons hv
          obtain ⟨a2, tl2, rfl, ha2, has2⟩ := vals_cons has
          simp only [vals, Option.some.injEq] at has2
          subst has2
          obtain ⟨x, hx, hax⟩ := slice_val ha1
          obtain ⟨y, hy, hay⟩ := slice_val ha2
          obtain rfl : rargs = #[a1, a2] := by apply Array.toList_inj.1; rw [hra]
          subst hax hay
          obtain ⟨x', hx', hxl, hxc⟩ := cells_of r hl1 hb1
          obtain ⟨y', hy', hyl, hyc⟩ := cells_of r hl2 hb2
          rw [hx] at hx'
          rw [hy] at hy'
          cases hx'
          cases hy'
          obtain ⟨g, mv, hgx, hmv, hmc⟩ := load_one r hl3
          obtain ⟨sp, sz, hg12⟩ := hg 12 (of_decide_eq_true (by kernel_rfl))
          rw [hg12] at hgx
          cases hgx
          simp only [val, Option.some.injEq] at hmv
          subst hmv
          refine .inl ⟨152, _, enters_of Tryz.func152 (by kernel_rfl) rfl _ _, ?_⟩
          have hn1 : (if t = true then c else c + x.sp) ≠ 0 := by split <;> omega
          have hn2 : (if t2 = true then c2 else c2 + y.sp) ≠ 0 := by split <;> omega
          rw [if_neg hn1, if_neg hn2]
          have hbytes : ∀ l : List UInt8, Lib.bytesOf (l.map fun b => (b.toNat : Int)) = l := fun l => by
            induction l with
            | nil => rfl
            | cons b l ih =>
              simp only [Lib.bytesOf, List.map_cons, List.cons.injEq] at ih ⊢
              exact ⟨by simp, ih⟩
          have hrange : ∀ l : List UInt8, ∀ z ∈ l.map (fun b => (b.toNat : Int)), 0 ≤ z ∧ z < 256 := fun l z hz => by
            obtain ⟨b, _, rfl⟩ := List.mem_map.1 hz
            have := b.toNat_lt
            omega
          refine (Go.Proofs.Any.bytes_Index_at Tryz.lays185 ⟨x.blk, x.base + o, none⟩ ⟨y.blk, y.base + o2, none⟩ n _ k _ (a.map fun b => (b.toNat : Int)) (s.map fun b => (b.toNat : Int)) m w (by simpa using hxl) (by simpa using hyl) (hrange a) (hrange s) hxc hyc (by split <;> omega) k5 k6 hmc).mono ?_
          rintro en w' ⟨rfl, q, rfl⟩
          refine ⟨e, _, rfl, Step.grow r ?_ ?_ ?_ ?_ ?_, ?_⟩
          · exact Nat.le_refl _
          · rfl
          · rfl
          · rfl
          · intro B _; rfl
          · rw [hbytes, hbytes, idxD_eq]; rfl
        · cases hs
      · cases hs
    · cases hs
  · cases hs
#print axioms sIndex_ok
end Go.Proofs.YtfdplefijefeiaaGreatDoor
