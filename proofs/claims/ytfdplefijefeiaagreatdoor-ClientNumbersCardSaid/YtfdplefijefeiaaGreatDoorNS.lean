/- What stands for three more functions: strings.Join, reflectlite's TypeOf and Comparable. -/
import Derived.Test.YtfdplefijefeiaaGreatDoorNS1
import Derived.Test.YtfdplefijefeiaaGreatDoorNShelf
namespace Go.Proofs.YtfdplefijefeiaaGreatDoor
open Go.Dx Go.Proofs Go.RowKit

theorem strsOf_ok {e : Env} : ∀ {cs : List DV} {l : List (List UInt8)} {rs : List Value}, strsOfD cs = some l → vals e cs = some rs → rs = l.map fun s => Value.string ⟨s.toArray⟩
  | [], l, rs, h, hv => by simp [strsOfD] at h; simp [vals] at hv; subst h; subst hv; rfl
  | c :: cs, l, rs, h, hv => by
    obtain ⟨x, xs, rfl, hx, hxs⟩ := vals_cons hv
    unfold strsOfD at h
    split at h
    · next heq => cases heq
    · next s r heq =>
      cases heq
      split at h
      · next l' hl' =>
        cases h
        simp only [val, Option.some.injEq] at hx
        rw [strsOf_ok hl' hxs, ← hx, List.map_cons]
      · cases h
    · cases h
theorem sJoin_ok : SpecOk Tryz.prog 83 sJoin := by
  intro e h w args v h' rargs hs hg r hv
  unfold sJoin at hs
  split at hs
  · next hh b o z n c t sep =>
    split at hs
    · next hk =>
      obtain ⟨k1, k2, k3⟩ := hk
      split at hs
      · next cs hl =>
        split at hs
        · next l hst =>
          split at hs
          · next hlen =>
            cases hs
            obtain ⟨a1, tl, hra, ha1, has⟩ := vals_cons hv
            obtain ⟨a2, tl2, rfl, ha2, has2⟩ := vals_cons has
            simp only [vals, Option.some.injEq] at has2
            subst has2
            obtain ⟨x, hx, hax⟩ := slice_val ha1
            simp only [val, Option.some.injEq] at ha2
            obtain rfl : rargs = #[a1, a2] := by apply Array.toList_inj.1; rw [hra]
            subst hax ha2
            obtain ⟨x', rs, hx', hvs, hr, hrl⟩ := load_cells r hl
            rw [hx] at hx'
            cases hx'
            have hrs := strsOf_ok hst hvs
            have hll : l.length = n := by rw [← hrl, hrs]; simp
            have hn1 : (if t = true then c else c + x.sp) ≠ 0 := by split <;> omega
            rw [if_neg hn1]
            refine .inl ⟨83, _, enters_of Tryz.func83 (by kernel_rfl) rfl _ _, ?_⟩
            have hmap : (l.map fun s => (⟨s.toArray⟩ : ByteArray)).map (·.data.toList) = l := by
              rw [List.map_map]
              exact List.map_id' l
            have hj := Tryz.strings_Join x.blk (x.base + o) (if t = true then c else c + x.sp) (l.map fun s => ⟨s.toArray⟩) ⟨sep.toArray⟩ w (fun j y hy => ?_) (r.lt b x hx) (by simp; omega) (by simp; split <;> omega) (by rw [hmap]; simp; omega)
            · simp only [List.length_map, hll, hmap] at hj
              refine hj.mono ?_
              rintro en w' ⟨rfl, hb⟩
              exact ⟨e, _, rfl, step_below r hb, rfl⟩
            · refine hr j _ ?_
              rw [hrs, List.getElem?_map]
              rw [List.getElem?_map] at hy
              cases hlj : l[j]? with
              | none => rw [hlj] at hy; cases hy
              | some s => rw [hlj] at hy; cases hy; rfl
          · cases hs
        · cases hs
      · cases hs
    · cases hs
  · cases hs

theorem typeOf39 (v : Value) (w : World) : (Extern.ReflectliteType.typeOf #[.iface 39 v]).run Tryz.prog w = .ok (.iface 146 (.agg #[.pointer (some ⟨19, 39, none⟩)])) w := by kernel_rfl
theorem typeOf419 (v : Value) (w : World) : (Extern.ReflectliteType.typeOf #[.iface 419 v]).run Tryz.prog w = .ok (.iface 146 (.agg #[.pointer (some ⟨19, 419, none⟩)])) w := by kernel_rfl
theorem iface_parts {e : Env} {T : TypeId} {d : DV} {v : Value} (h : val e (.iface T d) = some v) : ∃ x, v = .iface T x := by
  cases hd : val e d with
  | none => simp [val, hd] at h
  | some x => simp only [val, hd, Option.some.injEq] at h; exact ⟨x, h.symm⟩
theorem sTypeOf_ok : SpecOk Tryz.prog 40 sTypeOf := by
  intro e h w args v h' rargs hs hg r hv
  have hx := @run_callFunc_extern Tryz.prog 40 _ Extern.ReflectliteType.typeOf Tryz.func40 (by kernel_rfl) (by kernel_rfl) (by kernel_rfl) (by kernel_rfl)
  obtain ⟨sp, sz, h19⟩ := hg 19 (of_decide_eq_true (by kernel_rfl))
  unfold sTypeOf at hs
  split at hs
  · next hh d =>
    cases hs
    obtain ⟨a1, tl, hra, ha1, has⟩ := vals_cons hv
    simp only [vals, Option.some.injEq] at has
    subst has
    obtain ⟨x, rfl⟩ := iface_parts ha1
    obtain rfl : rargs = #[.iface 39 x] := by apply Array.toList_inj.1; rw [hra]
    exact .inr ⟨_, e, w, by rw [hx, typeOf39]; rfl, Step.refl r, by simp [val, vals, h19]⟩
  · next hh d =>
    cases hs
    obtain ⟨a1, tl, hra, ha1, has⟩ := vals_cons hv
    simp only [vals, Option.some.injEq] at has
    subst has
    obtain ⟨x, rfl⟩ := iface_parts ha1
    obtain rfl : rargs = #[.iface 419 x] := by apply Array.toList_inj.1; rw [hra]
    exact .inr ⟨_, e, w, by rw [hx, typeOf419]; rfl, Step.refl r, by simp [val, vals, h19]⟩
  · cases hs
theorem comparable39 (w : World) : ((Extern.ReflectliteType.method fun t => do Extern.Rtype.noPackHeld "Comparable" t; pure (.bool (← typeInfo t).comparable)) #[.agg #[.pointer (some ⟨19, 39, none⟩)]]).run Tryz.prog w = .ok (.bool true) w := by kernel_rfl
theorem comparable419 (w : World) : ((Extern.ReflectliteType.method fun t => do Extern.Rtype.noPackHeld "Comparable" t; pure (.bool (← typeInfo t).comparable)) #[.agg #[.pointer (some ⟨19, 419, none⟩)]]).run Tryz.prog w = .ok (.bool true) w := by kernel_rfl
theorem sComparable_ok : SpecOk Tryz.prog 291 sComparable := by
  intro e h w args v h' rargs hs hg r hv
  have hx := @run_callFunc_extern Tryz.prog 291 _ (Extern.ReflectliteType.method fun t => do Extern.Rtype.noPackHeld "Comparable" t; pure (.bool (← typeInfo t).comparable)) Tryz.func291 (by kernel_rfl) (by kernel_rfl) (by kernel_rfl) (by kernel_rfl)
  obtain ⟨sp, sz, h19⟩ := hg 19 (of_decide_eq_true (by kernel_rfl))
  unfold sComparable at hs
  split at hs
  · next hh =>
    cases hs
    simp only [vals, val, h19, Option.some.injEq] at hv
    obtain rfl : rargs = #[.agg #[.pointer (some ⟨19, 39, none⟩)]] := by apply Array.toList_inj.1; rw [← hv]
    exact .inr ⟨_, e, w, by rw [hx, comparable39]; rfl, Step.refl r, rfl⟩
  · next hh =>
    cases hs
    simp only [vals, val, h19, Option.some.injEq] at hv
    obtain rfl : rargs = #[.agg #[.pointer (some ⟨19, 419, none⟩)]] := by apply Array.toList_inj.1; rw [← hv]
    exact .inr ⟨_, e, w, by rw [hx, comparable419]; rfl, Step.refl r, rfl⟩
  · cases hs
#print axioms sJoin_ok
end Go.Proofs.YtfdplefijefeiaaGreatDoor
