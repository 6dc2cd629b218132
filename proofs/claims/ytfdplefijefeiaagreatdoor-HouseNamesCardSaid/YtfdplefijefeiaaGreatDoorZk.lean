/- D: equality. -/
import Derived.Test.YtfdplefijefeiaaGreatDoorZj
import Derived.Laws.StructEq
import Derived.ChangeKeysEq
namespace Go.Dx
open Go

theorem bind_some {α β : Type} {x : Option α} {f : α → Option β} {r : β} (h : x.bind f = some r) : ∃ y, x = some y ∧ f y = some r := Option.bind_eq_some_iff.1 h

section
variable {P : Program} {e : Env} {t : Fr} {a : Act} {h : DHeap} {w : World} {o : Oper} {D : DProg} {nx : Nx}

theorem part_ok {T : TypeId} {dd : TypeDesc} {n off : Nat} {cs : List DV} {l : List Value} {v : DV} (hd : P.underlying T = some dd) (hs : sizeT P T = some n) (hl : vals e cs = some l) (hv : partD cs off n (isAggT P T) = some v) : ∃ rv, (part T l.toArray off).run P w = .ok rv w ∧ val e v = some rv := by
  unfold partD at hv
  unfold part
  simp only [Sem.run_bind, run_isAggT hd, Result.andThen_ok]
  cases ha : isAggT P T with
  | true =>
    rw [ha] at hv
    simp only [if_true] at hv
    split at hv
    · cases hv
      refine ⟨.agg ((l.drop off).take n).toArray, ?_, by simp only [val, vals_sub _ _ hl]⟩
      simp only [if_true, Sem.run_bind, run_sizeT hs, Result.andThen_ok]
      simp [List.extract_eq_take_drop]
    · cases hv
  | false =>
    rw [ha] at hv
    simp only [Bool.false_eq_true, if_false] at hv
    obtain ⟨rv, h1, h2⟩ := vals_get hl hv
    exact ⟨rv, by simp [h1], h2⟩
theorem ety_under {n : Nat} {T : TypeId} {x : ETy} (h : etyD P n T = some x) : ∃ d, P.underlying T = some d := by
  cases n with
  | zero => simp [etyD] at h
  | succ n =>
    cases hu : P.underlying T with
    | none => simp [etyD, hu] at h
    | some d => exact ⟨d, rfl⟩

/-- equality at a depth -/
def EqOk (P : Program) (e : Env) (w : World) (f : ETy → DV → DV → Option Bool) (m : Nat) : Prop :=
  ∀ (n : Nat) (T : TypeId) (x : ETy) (u v : DV) (ru rv : Value) (b : Bool), etyD P n T = some x → val e u = some ru → val e v = some rv → f x u v = some b → (Op.equalIn m T ru rv).run P w = .ok b w
theorem go_fields {f : ETy → DV → DV → Option Bool} {m n : Nat} (hf : EqOk P e w f m) {xs ys : List DV} {lx ly : List Value} (hx : vals e xs = some lx) (hy : vals e ys = some ly) : ∀ {fs : List Field} {lst : List (Nat × Nat × Bool × ETy)} {b : Bool},
    ((fs.filter fun (f : Field) => f.name != "_").mapM fun (f : Field) => do pure (f.offset, ← sizeT P f.type, isAggT P f.type, ← etyD P n f.type)) = some lst → goEq f xs ys lst = some b → (Op.eqFields m lx.toArray ly.toArray fs).run P w = .ok b w
  | [], lst, b, hm, hg => by
    rw [List.filter_nil] at hm
    rw [mapM_nil_some hm] at hg
    simp only [goEq, Option.some.injEq] at hg
    subst hg
    rfl
  | fd :: fs, lst, b, hm, hg => by
    simp only [List.filter_cons] at hm
    unfold Op.eqFields
    by_cases hn : fd.name = "_"
    · rw [if_neg (by simp [hn])] at hm ⊢
      exact go_fields hf hx hy hm hg
    · rw [if_pos (by simpa using hn)] at hm
      rw [if_pos hn]
      obtain ⟨q, qs, rfl, hq, hqs⟩ := mapM_cons_some hm
      simp only [Option.bind_eq_bind, Option.pure_def] at hq
      obtain ⟨sz, hsz, hq⟩ := bind_some hq
      obtain ⟨ety, hety, hq⟩ := bind_some hq
      cases hq
      obtain ⟨dd, hdd⟩ := ety_under hety
      simp only [goEq] at hg
      split at hg
      · next x y hpx hpy =>
        obtain ⟨rx, p1, v1⟩ := part_ok (w := w) hdd hsz hx hpx
        obtain ⟨ry, p2, v2⟩ := part_ok (w := w) hdd hsz hy hpy
        simp only [Sem.run_bind, p1, p2, Result.andThen_ok]
        split at hg
        · next heq =>
          rw [hf n _ _ _ _ _ _ _ hety v1 v2 heq]
          simp only [Result.andThen_ok, Bool.not_true, Bool.false_eq_true, if_false]
          exact go_fields hf hx hy hqs hg
        · next heq =>
          cases hg
          rw [hf n _ _ _ _ _ _ _ hety v1 v2 heq]
          rfl
        · cases hg
      · cases hg
theorem go_items {f : ETy → DV → DV → Option Bool} {m n c : Nat} {el : TypeId} {ety : ETy} (hf : EqOk P e w f m) (hety : etyD P n el = some ety) (hc : sizeT P el = some c) {xs ys : List DV} {lx ly : List Value} (hx : vals e xs = some lx) (hy : vals e ys = some ly) : ∀ {is : List Nat} {b : Bool},
    goEq f xs ys (is.map fun i => (i * c, c, isAggT P el, ety)) = some b → (Op.eqItems m el c lx.toArray ly.toArray is).run P w = .ok b w
  | [], b, hg => by
    simp only [List.map_nil, goEq, Option.some.injEq] at hg
    subst hg
    rfl
  | i :: is, b, hg => by
    obtain ⟨dd, hdd⟩ := ety_under hety
    unfold Op.eqItems
    simp only [List.map_cons, goEq] at hg
    split at hg
    · next x y hpx hpy =>
      obtain ⟨rx, p1, v1⟩ := part_ok (w := w) hdd hc hx hpx
      obtain ⟨ry, p2, v2⟩ := part_ok (w := w) hdd hc hy hpy
      simp only [Sem.run_bind, p1, p2, Result.andThen_ok]
      split at hg
      · next heq =>
        rw [hf n _ _ _ _ _ _ _ hety v1 v2 heq]
        simp only [Result.andThen_ok, Bool.not_true, Bool.false_eq_true, if_false]
        exact go_items hf hety hc hx hy hg
      · next heq =>
        cases hg
        rw [hf n _ _ _ _ _ _ _ hety v1 v2 heq]
        rfl
      · cases hg
    · cases hg
theorem eqBool_ok {T : TypeId} {u v : DV} {ru rv : Value} {b : Bool} (m : Nat) (hT : P.underlying T = some .bool) (hu : val e u = some ru) (hv : val e v = some rv) (he : eqBool u v = some b) : (Op.equalIn (m + 1) T ru rv).run P w = .ok b w := by
  unfold eqBool at he
  split at he
  · simp only [val, Option.some.injEq] at hu hv he
    subst hu; subst hv; subst he
    exact run_equalIn_bool w _ _ _ _ hT
  · cases he
theorem eqInt_ok {T : TypeId} {u v : DV} {ru rv : Value} {b : Bool} {kk : IntKind} (m : Nat) (hT : P.underlying T = some (.int kk)) (hu : val e u = some ru) (hv : val e v = some rv) (he : eqInt u v = some b) : (Op.equalIn (m + 1) T ru rv).run P w = .ok b w := by
  unfold eqInt at he
  split at he
  · split at he
    · next hk =>
      simp only [val, Option.some.injEq] at hu hv he
      subst hu; subst hv; subst he; subst hk
      exact run_equalIn_int w _ _ _ _ _ _ hT
    · cases he
  · cases he
theorem eqStr_ok {T : TypeId} {u v : DV} {ru rv : Value} {b : Bool} (m : Nat) (hT : P.underlying T = some .string) (hu : val e u = some ru) (hv : val e v = some rv) (he : eqStr u v = some b) : (Op.equalIn (m + 1) T ru rv).run P w = .ok b w := by
  unfold eqStr at he
  split at he
  · simp only [val, Option.some.injEq] at hu hv he
    subst hu; subst hv; subst he
    rw [run_equalIn_string w _ _ _ _ hT, toList_list, toList_list, bytesEq_eq]
  · cases he
theorem eqPtr_ok {T el : TypeId} {u v : DV} {ru rv : Value} {b : Bool} {sz : Nat} (m : Nat) (hT : P.underlying T = some (.pointer el)) (hs : sizeT P el = some sz) (h0 : sz ≠ 0) (hu : val e u = some ru) (hv : val e v = some rv) (he : eqPtr u v = some b) : (Op.equalIn (m + 1) T ru rv).run P w = .ok b w := by
  unfold eqPtr at he
  split at he
  · simp only [val, Option.some.injEq] at hu hv he
    subst hu; subst hv; subst he
    simp [Op.equalIn, Sem.run_bind, run_underlying hT]
  · obtain ⟨y, hy, rfl⟩ := ptr_val hv
    simp only [val, Option.some.injEq] at hu he
    subst hu; subst he
    simp [Op.equalIn, Sem.run_bind, run_underlying hT]
  · obtain ⟨y, hy, rfl⟩ := ptr_val hu
    simp only [val, Option.some.injEq] at hv he
    subst hv; subst he
    simp [Op.equalIn, Sem.run_bind, run_underlying hT]
  · next b1 o1 b2 o2 =>
    split at he
    · next hbb =>
      subst hbb
      obtain ⟨y, hy, rfl⟩ := ptr_val hu
      obtain ⟨y', hy', rfl⟩ := ptr_val hv
      rw [hy] at hy'
      cases hy'
      simp only [Option.some.injEq] at he
      subst he
      have hb : ((⟨y.blk, y.base + o1, none⟩ : Addr) == ⟨y.blk, y.base + o2, none⟩) = decide (o1 = o2) := by
        by_cases hoo : o1 = o2
        · subst hoo; simp
        · rw [decide_eq_false hoo]
          apply beq_false_of_ne
          intro hc
          simp only [Addr.mk.injEq] at hc
          omega
      simp only [Op.equalIn, Sem.run_bind, run_underlying hT, run_sizeT hs, Result.andThen_ok]
      rw [if_pos h0]
      simp only [sameAddr, beq_self_eq_true, if_true, hb]
      rfl
    · cases he
  · cases he
theorem eqSl_ok {T el : TypeId} {u v : DV} {ru rv : Value} {b : Bool} (m : Nat) (hT : P.underlying T = some (.slice el)) (hu : val e u = some ru) (hv : val e v = some rv) (he : eqSl u v = some b) : (Op.equalIn (m + 1) T ru rv).run P w = .ok b w := by
  unfold eqSl at he
  split at he
  · simp only [val, Option.some.injEq] at hu hv he
    subst hu; subst hv; subst he
    simp [Op.equalIn, Sem.run_bind, run_underlying hT]
  · obtain ⟨y, hy, rfl⟩ := slice_val hv
    simp only [val, Option.some.injEq] at hu he
    subst hu; subst he
    simp [Op.equalIn, Sem.run_bind, run_underlying hT]
  · obtain ⟨y, hy, rfl⟩ := slice_val hu
    simp only [val, Option.some.injEq] at hv he
    subst hv; subst he
    simp [Op.equalIn, Sem.run_bind, run_underlying hT]
  · cases he
theorem eqMap_ok {T kt el : TypeId} {u v : DV} {ru rv : Value} {b : Bool} (m : Nat) (hT : P.underlying T = some (.map kt el)) (hu : val e u = some ru) (hv : val e v = some rv) (he : eqMap u v = some b) : (Op.equalIn (m + 1) T ru rv).run P w = .ok b w := by
  unfold eqMap at he
  split at he
  · simp only [val, Option.some.injEq] at hu hv he
    subst hu; subst hv; subst he
    simp [Op.equalIn, Sem.run_bind, run_underlying hT]
  · obtain ⟨y, hy, rfl⟩ := map_val hv
    simp only [val, Option.some.injEq] at hu he
    subst hu; subst he
    simp [Op.equalIn, Sem.run_bind, run_underlying hT]
  · obtain ⟨y, hy, rfl⟩ := map_val hu
    simp only [val, Option.some.injEq] at hv he
    subst hv; subst he
    simp [Op.equalIn, Sem.run_bind, run_underlying hT]
  · cases he
theorem func_val {fn : Fn} {f c : List DV} {v : Value} (hv : val e (.func fn f c) = some v) : ∃ x y, vals e f = some x ∧ vals e c = some y ∧ v = .func fn x.toArray y.toArray := by
  cases hf : vals e f with
  | none => simp [val, hf] at hv
  | some x =>
    cases hc : vals e c with
    | none => simp [val, hf, hc] at hv
    | some y => simp only [val, hf, hc, Option.some.injEq] at hv; exact ⟨x, y, rfl, rfl, hv.symm⟩
theorem eqFn_ok {T : TypeId} {ps rs : Array TypeId} {va : Bool} {u v : DV} {ru rv : Value} {b : Bool} (m : Nat) (hT : P.underlying T = some (.func ps rs va)) (hu : val e u = some ru) (hv : val e v = some rv) (he : eqFn u v = some b) : (Op.equalIn (m + 1) T ru rv).run P w = .ok b w := by
  unfold eqFn at he
  split at he
  · simp only [val, Option.some.injEq] at hu hv he
    subst hu; subst hv; subst he
    simp [Op.equalIn, Sem.run_bind, run_underlying hT]
  · obtain ⟨x, y, _, _, rfl⟩ := func_val hv
    simp only [val, Option.some.injEq] at hu he
    subst hu; subst he
    simp [Op.equalIn, Sem.run_bind, run_underlying hT]
  · obtain ⟨x, y, _, _, rfl⟩ := func_val hu
    simp only [val, Option.some.injEq] at hv he
    subst hv; subst he
    simp [Op.equalIn, Sem.run_bind, run_underlying hT]
  · cases he
theorem iface_val {T : TypeId} {x : DV} {v : Value} (hv : val e (.iface T x) = some v) : ∃ r, val e x = some r ∧ v = .iface T r := by
  cases hx : val e x with
  | none => simp [val, hx] at hv
  | some r => simp only [val, hx, Option.some.injEq] at hv; exact ⟨r, rfl, hv.symm⟩
theorem agg_val {cs : List DV} {v : Value} (hv : val e (.agg cs) = some v) : ∃ l, vals e cs = some l ∧ v = .agg l.toArray := by
  cases hx : vals e cs with
  | none => simp [val, hx] at hv
  | some r => simp only [val, hx, Option.some.injEq] at hv; exact ⟨r, rfl, hv.symm⟩
theorem eqIf_ok {et : TypeId → Option ETy} (het : ∀ T x, et T = some x → etyD P 8 T = some x ∧ ∃ i, P.info? T = some i ∧ i.comparable = true) {T : TypeId} {ms : Array (String × TypeId)} {ne : Bool} {u v : DV} {ru rv : Value} {b : Bool} {m : Nat} {f : ETy → DV → DV → Option Bool} (hf : EqOk P e w f m) (hT : P.underlying T = some (.interface ms)) (hu : val e u = some ru) (hv : val e v = some rv) (he : eqIf et f ne u v = some b) : (Op.equalIn (m + 1) T ru rv).run P w = .ok b w := by
  unfold eqIf at he
  split at he
  · split at he
    · cases he
    · simp only [val, Option.some.injEq] at hu hv he
      subst hu; subst hv; subst he
      simp [Op.equalIn, Sem.run_bind, run_underlying hT]
  · obtain ⟨y, hy, rfl⟩ := iface_val hv
    simp only [val, Option.some.injEq] at hu he
    subst hu; subst he
    simp [Op.equalIn, Sem.run_bind, run_underlying hT]
  · obtain ⟨y, hy, rfl⟩ := iface_val hu
    simp only [val, Option.some.injEq] at hv he
    subst hv; subst he
    simp [Op.equalIn, Sem.run_bind, run_underlying hT]
  · next t1 v1 t2 v2 =>
    obtain ⟨y1, hy1, rfl⟩ := iface_val hu
    obtain ⟨y2, hy2, rfl⟩ := iface_val hv
    split at he
    · next hne =>
      cases he
      simp [Op.equalIn, Sem.run_bind, run_underlying hT, hne]
    · next heq =>
      have heq : t1 = t2 := by simpa using heq
      subst heq
      split at he
      · next e' hee =>
        obtain ⟨h1, i, h2, h3⟩ := het _ _ hee
        have := hf _ _ _ _ _ _ _ _ h1 hy1 hy2 he
        simp [Op.equalIn, Sem.run_bind, run_underlying hT, typeInfo, h2, h3, this]
      · cases he
  · cases he
theorem eqD_ok {et : TypeId → Option ETy} (het : ∀ T x, et T = some x → etyD P 8 T = some x ∧ ∃ i, P.info? T = some i ∧ i.comparable = true) : ∀ (d k : Nat), EqOk P e w (eqD et d) (d + k)
  | 0, k => fun n T x u v ru rv b _ _ _ he => by simp [eqD] at he
  | d + 1, k => fun n T x u v ru rv b hx hu hv he => by
    have ih := eqD_ok het d k
    rw [show d + 1 + k = (d + k) + 1 by omega]
    cases n with
    | zero => simp [etyD] at hx
    | succ n =>
      simp only [etyD] at hx
      split at hx
      · next hT => cases hx; exact eqBool_ok _ hT hu hv he
      · next kk hT => cases hx; exact eqInt_ok _ hT hu hv he
      · next hT => cases hx; exact eqStr_ok _ hT hu hv he
      · next el hT =>
        split at hx
        · cases hx
        · next sz hne hsz => cases hx; exact eqPtr_ok _ hT hsz hne hu hv he
        · cases hx
      · next ms hT => cases hx; exact eqIf_ok het ih hT hu hv he
      · next el hT => cases hx; exact eqSl_ok _ hT hu hv he
      · next hT => cases hx; exact eqMap_ok _ hT hu hv he
      · next hT => cases hx; exact eqFn_ok _ hT hu hv he
      · next c el hT =>
        simp only [Option.bind_eq_bind, Option.pure_def] at hx
        obtain ⟨sz, hsz, hx⟩ := bind_some hx
        obtain ⟨ety, hety, hx⟩ := bind_some hx
        cases hx
        simp only [eqD] at he
        unfold eqAgg at he
        split at he
        · obtain ⟨lx, hlx, rfl⟩ := agg_val hu
          obtain ⟨ly, hly, rfl⟩ := agg_val hv
          obtain ⟨i, hi⟩ : ∃ i, P.info? el = some i := by
            unfold sizeT at hsz
            cases hi : P.info? el with
            | none => simp [hi] at hsz
            | some i => exact ⟨i, rfl⟩
          have hc : P.cellsOf el = sz := by unfold Program.cellsOf; unfold sizeT at hsz; rw [hsz]; rfl
          rw [run_equalIn_array w _ _ _ hT hi, hc]
          exact go_items ih hety hsz hlx hly he
        · cases he
      · next fs hT =>
        split at hx
        · cases hx
        · next hst =>
          simp only [Option.map_eq_some_iff] at hx
          obtain ⟨lst, hlst, rfl⟩ := hx
          simp only [eqD] at he
          unfold eqAgg at he
          split at he
          · obtain ⟨lx, hlx, rfl⟩ := agg_val hu
            obtain ⟨ly, hly, rfl⟩ := agg_val hv
            have hfs : P.fieldsOf T = fs := by unfold Program.fieldsOf; rw [hT]
            rw [run_equalIn_struct w _ _ _ _ (by rw [hfs]; exact hT) (by simpa using hst), hfs]
            exact go_fields ih hlx hly hlst he
          · cases he
      · cases hx
end
end Go.Dx
