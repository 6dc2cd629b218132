/- D: methods, aggregates that are made. -/
import Derived.Test.YtfdplefijefeiaaGreatDoorZl
namespace Go.Dx
open Go

section
variable {P : Program} {e : Env} {t : Fr} {a : Act} {h : DHeap} {w : World} {o : Oper} {D : DProg} {nx : Nx}

theorem run_method {T : TypeId} {name : String} {f : Nat} {v : Value} (hm : methodD P T name = some (f, .same)) (n : Nat) : (method (n + 1) T v name).run P w = .ok (f, v) w := by
  unfold methodD at hm
  simp only [Option.bind_eq_bind] at hm
  obtain ⟨i, hi, hm⟩ := bind_some hm
  obtain ⟨m, hmf, hm⟩ := bind_some hm
  split at hm
  · cases hm
  next hpath =>
  have hp0 : m.path = #[] := by
    have : m.path.size = 0 := by simpa using hpath
    exact Array.eq_empty_of_size_eq_zero this
  obtain ⟨q, hq, hm⟩ := bind_some hm
  obtain ⟨f', ptr⟩ := q
  unfold method
  simp only [Sem.run_bind, typeInfo]
  have hprog : (program).run P w = .ok P w := rfl
  simp only [hprog, Result.andThen_ok, hi]
  show Sem.run P _ w = _
  simp only [Sem.run_pure, Result.andThen_ok, hmf, hp0, follow, hq]
  split at hm
  · next hu hp =>
    simp only [Option.some.injEq, Prod.mk.injEq] at hm
    obtain ⟨rfl, _⟩ := hm
    have hp : ptr = true := hp
    subst hp
    simp [receiverAt, Sem.run_bind, run_underlying hu, Place.get]
  · cases hm
  · rename_i d hnp hu hp
    simp only [Option.some.injEq, Prod.mk.injEq] at hm
    obtain ⟨rfl, _⟩ := hm
    have hp : ptr = false := hp
    subst hp
    cases d <;> first | exact (hnp _ hu rfl).elim | exact (hnp _ hu).elim | exact (hnp _ rfl).elim | simp [receiverAt, Sem.run_bind, run_underlying hu, Place.get]
  · cases hm
theorem ok_callM {c : Call} {x : Operand} {name : String} (hmt : ∀ T name q, D.methods T name = some q → q.2 = .same ∧ methodD P T name = some q) (hg : Glob P e) (hf : FrR e t a.tmps) (r : Rep e h w) (ho : o.op = .call c) (hc : c.callee = .invoke x name) {x' : Opd} {xs : List Opd} (hx : opdD P x = some x') (hxs : opdsD P c.args = some xs) (hn : opD D t h (.callM x' name xs) = some nx) : NxOk P e h w (execOp a.eval o) nx := by
  have vx := opd_ok hg hf hx
  have vxs := opds_ok hg hf hxs
  simp only [opD] at hn
  split at hn
  · next ty v hb =>
    rw [hb] at vx
    obtain ⟨rv, hrv, hv⟩ := iface_val vx
    split at hn
    · next f hmm =>
      cases hn
      obtain ⟨_, hmd⟩ := hmt _ _ _ hmm
      refine ⟨rfl, #[rv] ++ c.args.map a.eval, ?_, ?_⟩
      · have hme : (method (P.types.size + Made.depth) ty rv name).run P w = .ok (f, rv) w := by
          rw [show P.types.size + Made.depth = (P.types.size + 99) + 1 from rfl]
          exact run_method hmd _
        have hprog : (program).run P w = .ok P w := rfl
        have h0 : (#[Value.iface ty rv] ++ Array.map a.eval c.args)[0]? = some (.iface ty rv) := by rw [Array.getElem?_append_left (Nat.zero_lt_one)]; rfl
        simp [execOp, ho, resolve, hc, hv, invoke, callMethod, Sem.run_bind]
        rw [h0]
        simp only [Sem.run_bind, hprog, Result.andThen_ok, hme]
        congr 1
        congr 1
        congr 1
        rw [← Array.size_map (f := a.eval) (xs := c.args)]
        exact Array.extract_size
      · have := vals_cons_of hrv vxs
        rw [this]
        simp
    · cases hn
    · cases hn
  · cases hn
theorem ok_assertI {x : Operand} {X T : TypeId} {cok : Bool} {want : Array (String × TypeId)} (him : ∀ T U b, D.impl T U = some b → implD P T U = some b) (hz : zeroT P T = some .nilIface) (hg : Glob P e) (hf : FrR e t a.tmps) (r : Rep e h w) (ho : o.op = .typeAssert x X T cok) (hu : P.underlying T = some (.interface want)) {x' : Opd} (hx : opdD P x = some x') (hn : opD D t h (.assertI x' T cok) = some nx) : NxOk P e h w (execOp a.eval o) nx := by
  have vx := opd_ok hg hf hx
  obtain ⟨zv, hz1, hz2⟩ := run_zeroT hz e w
  simp only [val, Option.some.injEq] at hz2
  subst hz2
  simp only [opD] at hn
  split at hn
  · next hb =>
    rw [hb] at vx
    simp only [val, Option.some.injEq] at vx
    split at hn
    · next hc =>
      cases hn
      subst hc
      refine .pure r (rv := .tuple #[.nilIface, .bool false]) ?_ rfl
      simp [execOp, ho, ← vx, Instr.typeAssert, Sem.run_bind, run_underlying hu, hz1]
    · cases hn
  · next ty v hb =>
    rw [hb] at vx
    have vx' := vx
    obtain ⟨rv, hrv, hv⟩ := iface_val vx
    have himp : ∀ b, D.impl ty T = some b → ∃ i, P.info? ty = some i ∧ (Instr.missingMethod want i.methods).isNone = b := fun b hb => by
      have := him _ _ _ hb
      unfold implD at this
      simp only [Option.bind_eq_bind] at this
      obtain ⟨i, hi, this⟩ := bind_some this
      rw [hu] at this
      simp only [Option.pure_def, Option.some.injEq] at this
      exact ⟨i, hi, this⟩
    split at hn
    · next hi =>
      cases hn
      obtain ⟨i, h1, h2⟩ := himp _ hi
      have h3 : Instr.missingMethod want i.methods = none := by simpa using h2
      cases cok with
      | true =>
        refine .pure r (rv := .tuple #[.iface ty rv, .bool true]) ?_ (by simp [val, vals, hrv])
        simp [execOp, ho, hv, Instr.typeAssert, Sem.run_bind, run_underlying hu, typeInfo, h1, h3]
      | false =>
        refine .pure r (rv := .iface ty rv) ?_ (by simp [val, hrv])
        simp [execOp, ho, hv, Instr.typeAssert, Sem.run_bind, run_underlying hu, typeInfo, h1, h3]
    · next hi =>
      split at hn
      · next hc =>
        cases hn
        subst hc
        obtain ⟨i, h1, h2⟩ := himp _ hi
        obtain ⟨mm, h3⟩ : ∃ m, Instr.missingMethod want i.methods = some m := by
          cases hmm : Instr.missingMethod want i.methods with
          | none => rw [hmm] at h2; cases h2
          | some m => exact ⟨m, rfl⟩
        refine .pure r (rv := .tuple #[.nilIface, .bool false]) ?_ rfl
        simp [execOp, ho, hv, Instr.typeAssert, Sem.run_bind, run_underlying hu, typeInfo, h1, h3, hz1]
      · cases hn
    · cases hn
  · cases hn
theorem replicate_vals {z : DV} {zv : Value} (hz : val e z = some zv) (n : Nat) : vals e (List.replicate n z.cells).flatten = some (List.replicate n zv.cells.toList).flatten := by
  induction n with
  | zero => rfl
  | succ n ih =>
    rw [List.replicate_succ, List.replicate_succ, List.flatten_cons, List.flatten_cons]
    exact vals_append (cells_val hz) ih
theorem flat_rep (zs : List Value) : ∀ (n i : Nat), i < n * zs.length → (List.replicate n zs).flatten[i]? = zs[i % zs.length]?
  | 0, i, h => by omega
  | n + 1, i, h => by
    rw [List.replicate_succ, List.flatten_cons]
    rw [Nat.add_mul, Nat.one_mul] at h
    by_cases hi : i < zs.length
    · rw [List.getElem?_append_left hi, Nat.mod_eq_of_lt hi]
    · rw [List.getElem?_append_right (by omega), flat_rep zs n (i - zs.length) (by omega)]
      congr 1
      exact (Nat.mod_eq_sub_mod (by omega)).symm
theorem range_mod (zs : Array Value) (n : Nat) : (Array.range (n * zs.size)).map (zs[· % zs.size]!) = (List.replicate n zs.toList).flatten.toArray := by
  apply Array.ext'
  apply List.ext_getElem?
  intro i
  by_cases hi : i < n * zs.size
  · have hp : 0 < zs.size := by
      rcases Nat.eq_zero_or_pos zs.size with h0 | h0
      · rw [h0] at hi; omega
      · exact h0
    have hm : i % zs.size < zs.size := Nat.mod_lt _ hp
    have := flat_rep zs.toList n i (by simpa using hi)
    rw [show (List.replicate n zs.toList).flatten.toArray.toList = (List.replicate n zs.toList).flatten by simp, this]
    simp [hi, hm]
  · rw [List.getElem?_eq_none (by simp; omega), List.getElem?_eq_none (by simp; omega)]
theorem ok_mkSlice {T el : TypeId} {l c : Operand} {i : TypeInfo} {zv : Value} {z : DV} (hg : Glob P e) (hf : FrR e t a.tmps) (r : Rep e h w) (ho : o.op = .makeSlice T l c) (hT : P.underlying T = some (.slice el)) (hi : P.info? el = some i) (hz : zeroT P el = some z)
    {l' c' : Opd} (hl : opdD P l = some l') (hc : opdD P c = some c') (hn : opD D t h (.mkSlice z.cells i.size i.bytes l' c') = some nx) : NxOk P e h w (execOp a.eval o) nx := by
  have vl := opd_ok hg hf hl
  have vc := opd_ok hg hf hc
  obtain ⟨zv, hz1, hz2⟩ := run_zeroT hz e w
  simp only [opD] at hn
  split at hn
  · next n m hnl hnc =>
    obtain ⟨k1, hk1⟩ := natOf_val hnl vl
    obtain ⟨k2, hk2⟩ := natOf_val hnc vc
    split at hn
    · next hle =>
      cases hn
      obtain ⟨h1, h2, h2b, h3⟩ := hle
      have hzl : zv.cells.size = i.size := by rw [← h3]; have := vals_length (cells_val hz2); simpa using this
      have hst := step_new_cells r (replicate_vals hz2 m) [] el 0 0 (by simp)
      rw [List.append_nil] at hst
      refine ⟨_, _, hst, .inl ⟨.slice (some ⟨w.heap.size, 0, none⟩) n m, ?_, by simp [val, Env.add]⟩⟩
      have hw1 : IntKind.i64.wrap (n : Int) = n := wrap_in _ _ (by simp [IntKind.signed, IntKind.bits] <;> omega) (by simp [IntKind.signed, IntKind.bits] <;> omega)
      have hw2 : IntKind.i64.wrap (m : Int) = m := wrap_in _ _ (by simp [IntKind.signed, IntKind.bits] <;> omega) (by simp [IntKind.signed, IntKind.bits] <;> omega)
      have hbm : (i.bytes : Int) * (m : Int) ≤ 1073741824 := by rw [← Int.natCast_mul]; omega
      have hrow : (newRow el ((Array.range (m * i.size)).map ((if m * i.size = 0 then (#[] : Array Value) else zv.cells)[· % (if m * i.size = 0 then (#[] : Array Value) else zv.cells).size]!))).run P w = .ok ⟨w.heap.size, 0, none⟩ (w.alloc (.cells (List.replicate m zv.cells.toList).flatten.toArray el)) := by
        rw [run_newRow]
        congr 3
        by_cases h0 : m * i.size = 0
        · simp only [h0, if_true]
          rcases Nat.mul_eq_zero.1 h0 with hm0 | hs0
          · rw [hm0]; simp
          · have : zv.cells = #[] := Array.eq_empty_of_size_eq_zero (by rw [hzl, hs0])
            rw [this]
            simp
        · simp only [h0, if_false]
          rw [← hzl]
          exact range_mod _ _
      have hask : ∀ b w, (askRoom b).run P w = .ok () w := fun b w => by
        unfold askRoom
        split <;> rfl
      have hzr : (if m * i.size = 0 then (pure #[] : Sem (Array Value)) else (do pure (← zeroValue el).cells)).run P w = .ok (if m * i.size = 0 then (#[] : Array Value) else zv.cells) w := by
        by_cases h0 : m * i.size = 0
        · simp [h0]
        · simp [h0, Sem.run_bind, hz1]
      simp only [execOp, ho, Sem.run_bind]
      unfold Instr.makeSlice
      simp only [Sem.run_bind, run_underlying hT, Result.andThen_ok, hk1, hk2, asInt, asIntOf, Sem.run_pure, typeInfo, show (program).run P w = .ok P w from rfl, hi, hw1, hw2]
      rw [if_neg (by simp; omega)]
      have hsz : (sizeOf el).run P w = .ok i.size w := by simp [sizeOf, typeInfo, hi]
      simp only [Sem.run_bind, hask, Result.andThen_ok, Int.toNat_natCast, hsz]
      by_cases h0 : m * i.size = 0
      · simp only [h0, if_true] at hrow
        rw [if_pos h0]
        simp only [Sem.run_bind, Sem.run_pure, Result.andThen_ok, h0, hrow]
      · simp only [h0, if_false] at hrow
        rw [if_neg h0]
        simp only [Sem.run_bind, Sem.run_pure, Result.andThen_ok, hz1, hrow]
    · cases hn
  · cases hn
end
end Go.Dx
