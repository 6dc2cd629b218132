/- The evaluator, part 9. -/
import Derived.Test.YtfdplefijefeiaaGreatDoorZ8
import Derived.Tactics
/- D: every operation. -/
namespace Go.Dx
open Go

structure DOk (P : Program) (D : DProg) : Prop where
  etys : ∀ T x, D.etys T = some x → etyD P 8 T = some x ∧ ∃ i, P.info? T = some i ∧ i.comparable = true
  methods : ∀ T name q, D.methods T name = some q → q.2 = .same ∧ methodD P T name = some q
  impl : ∀ T U b, D.impl T U = some b → implD P T U = some b
theorem zero_info {P : Program} {T : TypeId} {z : DV} (h : zeroT P T = some z) : ∃ i zv, P.info? T = some i ∧ i.zero = some zv ∧ ∀ e, val e z = some zv := by
  unfold zeroT at h
  cases hi : P.info? T with
  | none => simp [hi] at h
  | some i =>
    simp only [hi, Option.bind_some] at h
    cases hz : i.zero with
    | none => simp [hz] at h
    | some v =>
      simp only [hz, Option.bind_some] at h
      exact ⟨i, v, rfl, hz, fun e => valD_val e 4 v z h⟩
theorem primKey_ok {P : Program} {T : TypeId} {ks : Bool} (h : primKey P T = some ks) : ∃ kt el kind, P.underlying T = some (.map kt el) ∧ P.underlying kt = some kind ∧ keyKind ks kind := by
  unfold primKey at h
  split at h
  · next kt el hT =>
    split at h
    · next k hk => cases h; exact ⟨kt, el, _, hT, hk, ⟨k, rfl⟩⟩
    · next hk => cases h; exact ⟨kt, el, _, hT, hk, rfl⟩
    · cases h
  · cases h

section
variable {P : Program} {e : Env} {t : Fr} {a : Act} {h : DHeap} {w : World} {o : Oper} {D : DProg} {nx : Nx}

theorem builtin_sound {b : Builtin} {c : Call} {d : DOp} (hg : Glob P e) (hf : FrR e t a.tmps) (r : Rep e h w) (ho : o.op = .call c) (hcal : c.callee = .builtin b) (hc : builtinD P b c = some d) (hn : opD D t h d = some nx) : NxOk P e h w (execOp a.eval o) nx := by
  unfold builtinD at hc
  split at hc
  · next x hxs =>
    simp only [Option.bind_eq_bind, Option.pure_def] at hc
    obtain ⟨T, hT, hc⟩ := bind_some hc
    split at hc
    · next hu => obtain ⟨y, hy, hc⟩ := bind_some hc; cases hc; exact ok_lenStr hg hf r ho hcal hxs hT hu hy hn
    · next el hu => obtain ⟨y, hy, hc⟩ := bind_some hc; cases hc; exact ok_lenSl hg hf r ho hcal hxs hT hu hy hn
    · next kt el hu => obtain ⟨y, hy, hc⟩ := bind_some hc; cases hc; exact ok_lenMap hg hf r ho hcal hxs hT hu hy hn
    · next n el hu => cases hc; exact ok_lenArr hg hf r ho hcal hxs hT (.inl ⟨_, hu⟩) hn
    · next A hu =>
      split at hc
      · next n el hA => cases hc; exact ok_lenArr hg hf r ho hcal hxs hT (.inr ⟨_, _, hu, hA⟩) hn
      · cases hc
    · cases hc
  · next x y hxs =>
    simp only [Option.bind_eq_bind, Option.pure_def] at hc
    obtain ⟨T, hT, hc⟩ := bind_some hc
    split at hc
    · next el hu =>
      obtain ⟨T1, hT1, hc⟩ := bind_some hc
      have hfin : ∀ hk : (∃ e', P.underlying T1 = some (.slice e')) ∨ P.underlying T1 = some .string, (match P.info? el, zeroT P el with
        | some i, some z => if z.cells.length = i.size then ((opdD P x).bind fun x' => (opdD P y).bind fun y' => some (DOp.append i.size i.bytes [] x' y')) else none
        | _, _ => none) = some d → NxOk P e h w (execOp a.eval o) nx := fun hk hc => by
        split at hc
        · next i z hi hz =>
          split at hc
          · next hlen =>
            obtain ⟨x', hx', hc⟩ := bind_some hc
            obtain ⟨y', hy', hc⟩ := bind_some hc
            cases hc
            obtain ⟨i', zv, h1, h2, h3⟩ := zero_info hz
            rw [hi] at h1
            cases h1
            have hzs : zv.cells.size = i.size := by rw [← hlen]; have := vals_length (cells_val (h3 e)); simpa using this
            exact ok_append hg hf r ho hcal hxs hT hT1 hu hk hi h2 hzs hx' hy' hn
          · cases hc
        · cases hc
      split at hc
      · next e' hk => exact hfin (.inl ⟨_, hk⟩) hc
      · next hk => exact hfin (.inr hk) hc
      · cases hc
    · cases hc
  · next x y hxs =>
    simp only [Option.bind_eq_bind, Option.pure_def] at hc
    obtain ⟨T, hT, hc⟩ := bind_some hc
    split at hc
    · next el hu =>
      obtain ⟨sz, hs, hc⟩ := bind_some hc
      obtain ⟨x', hx', hc⟩ := bind_some hc
      obtain ⟨y', hy', hc⟩ := bind_some hc
      cases hc
      exact ok_copy hg hf r ho hcal hxs hT hu hs hx' hy' hn
    · cases hc
  · next m k hxs =>
    simp only [Option.bind_eq_bind, Option.pure_def] at hc
    obtain ⟨T, hT, hc⟩ := bind_some hc
    obtain ⟨ks, hks, hc⟩ := bind_some hc
    obtain ⟨x', hx', hc⟩ := bind_some hc
    obtain ⟨y', hy', hc⟩ := bind_some hc
    cases hc
    obtain ⟨kt, el, kind, h1, h2, h3⟩ := primKey_ok hks
    exact ok_delete hg hf r ho hcal hxs hT h1 h2 h3 hx' hy' hn
  · next x hxs =>
    simp only [Option.bind_eq_bind, Option.pure_def] at hc
    obtain ⟨T, hT, hc⟩ := bind_some hc
    split at hc
    · next el hu => obtain ⟨y, hy, hc⟩ := bind_some hc; cases hc; exact ok_capSl hg hf r ho hcal hxs hT hu hy hn
    · cases hc
  · next x hxs =>
    simp only [Option.bind_eq_bind, Option.pure_def] at hc
    obtain ⟨T, hT, hc⟩ := bind_some hc
    split at hc
    · next kt el hu => obtain ⟨y, hy, hc⟩ := bind_some hc; cases hc; exact ok_clearMap hg hf r ho hcal hxs hT hu hy hn
    · cases hc
  · next xs hxs =>
    simp only [Option.bind_eq_bind, Option.pure_def] at hc
    obtain ⟨ys, hys, hc⟩ := bind_some hc
    cases hc
    exact ok_minmax (b := true) hg hf r ho hcal hys hn
  · next xs hxs =>
    simp only [Option.bind_eq_bind, Option.pure_def] at hc
    obtain ⟨ys, hys, hc⟩ := bind_some hc
    cases hc
    exact ok_minmax (b := false) hg hf r ho hcal hys hn
  · cases hc
end
end Go.Dx
/- D: EVERY OPERATION. -/
namespace Go.Dx
open Go

section
variable {P : Program} {e : Env} {t : Fr} {a : Act} {h : DHeap} {w : World} {o : Oper} {D : DProg} {nx : Nx}

theorem op_sound {d : DOp} (hD : DOk P D) (hg : Glob P e) (hf : FrR e t a.tmps) (r : Rep e h w) (hc : opC P o = some d) (hn : opD D t h d = some nx) : NxOk P e h w (execOp a.eval o) nx := by
  unfold opC at hc
  simp only [Option.bind_eq_bind, Option.pure_def] at hc
  split at hc
  · next x ho => obtain ⟨y, hy, hc⟩ := bind_some hc; cases hc; exact ok_move hg hf r (.inl ho) hy hn
  · next x ho => obtain ⟨y, hy, hc⟩ := bind_some hc; cases hc; exact ok_move hg hf r (.inr ho) hy hn
  · next c x y ho =>
    obtain ⟨c', hc', hc⟩ := bind_some hc; obtain ⟨x', hx', hc⟩ := bind_some hc; obtain ⟨y', hy', hc⟩ := bind_some hc
    cases hc; exact ok_pick hg hf r ho hc' hx' hy' hn
  · next el ho => obtain ⟨z, hz, hc⟩ := bind_some hc; cases hc; exact ok_alloc r ho hz hn
  · next el x ho => obtain ⟨y, hy, hc⟩ := bind_some hc; cases hc; exact ok_box hg hf r ho hy hn
  · next T ps ho =>
    obtain ⟨z, hz, hc⟩ := bind_some hc; obtain ⟨ds, hds, hc⟩ := bind_some hc
    cases hc; exact ok_build hg hf r ho hz hds hn
  · next T n ps ho =>
    split at hc
    · next el hu =>
      split at hc
      · next i z hi hz =>
        unfold bsliceD at hc
        split at hc
        · next hle =>
          split at hc
          · next ds hds => cases hc; exact ok_buildSlice hg hf r ho hu hi hz hle.1 hle.2 hds hn
          · cases hc
        · cases hc
      · cases hc
    · cases hc
  · next T x ho =>
    split at hc
    · cases hc
    · next dd hu =>
      split at hc
      · next hT =>
        obtain ⟨n, hs, hc⟩ := bind_some hc; obtain ⟨x', hx', hc⟩ := bind_some hc
        cases hc; exact ok_loadN hg hf r ho hu hT hs hx' hn
      · next hT =>
        obtain ⟨x', hx', hc⟩ := bind_some hc
        cases hc; exact ok_load1 hg hf r ho hu (by simpa using hT) hx' hn
  · next T x y ho =>
    obtain ⟨n, hs, hc⟩ := bind_some hc; obtain ⟨x', hx', hc⟩ := bind_some hc; obtain ⟨y', hy', hc⟩ := bind_some hc
    cases hc; exact ok_store hg hf r ho hs hx' hy' hn
  · next x ho => obtain ⟨y, hy, hc⟩ := bind_some hc; cases hc; exact ok_nilCheck hg hf r ho hy hn
  · next op T x y T' ho =>
    have heqv : ∀ neg, ((op = .eql ∧ neg = false) ∨ (op = .neq ∧ neg = true)) → (match P.underlying T with
        | some (.int _) => (opdD P x).bind fun x' => (opdD P y).bind fun y' => some (DOp.bin op x' y')
        | some .string => (opdD P x).bind fun x' => (opdD P y).bind fun y' => some (DOp.bin op x' y')
        | some (.interface ms) => (opdD P x).bind fun x' => (opdD P y).bind fun y' => some (DOp.eqv neg (.iface (!ms.isEmpty && !isConstO x && !isConstO y)) x' y')
        | _ => if P.eqGuardType P.depth T = true then none else (etyD P 8 T).bind fun ety => (opdD P x).bind fun x' => (opdD P y).bind fun y' => some (DOp.eqv neg ety x' y')) = some d → NxOk P e h w (execOp a.eval o) nx := fun neg hop hc => by
      split at hc
      · obtain ⟨x', hx', hc⟩ := bind_some hc; obtain ⟨y', hy', hc⟩ := bind_some hc
        cases hc; exact ok_bin hg hf r ho hx' hy' hn
      · obtain ⟨x', hx', hc⟩ := bind_some hc; obtain ⟨y', hy', hc⟩ := bind_some hc
        cases hc; exact ok_bin hg hf r ho hx' hy' hn
      · next ms hu =>
        obtain ⟨x', hx', hc⟩ := bind_some hc; obtain ⟨y', hy', hc⟩ := bind_some hc
        cases hc; exact ok_eqv_iface hD.etys hg hf r ho hop hu hx' hy' hn
      · next hn1 hn2 hn3 =>
        split at hc
        · cases hc
        · next hgt =>
          obtain ⟨ety, hety, hc⟩ := bind_some hc; obtain ⟨x', hx', hc⟩ := bind_some hc; obtain ⟨y', hy', hc⟩ := bind_some hc
          cases hc
          have hty : BigTy ety ∧ ∀ ne, ety ≠ .iface ne := by
            have he := hety
            rw [show (8 : Nat) = 7 + 1 from rfl] at he
            simp only [etyD] at he
            split at he
            · cases he; exact ⟨True.intro, fun ne h => by cases h⟩
            · next k hk => exact (hn1 k hk).elim
            · next hk => exact (hn2 hk).elim
            · split at he
              · cases he
              · cases he; exact ⟨True.intro, fun ne h => by cases h⟩
              · cases he
            · next ms hk => exact (hn3 ms hk).elim
            · cases he; exact ⟨True.intro, fun ne h => by cases h⟩
            · cases he; exact ⟨True.intro, fun ne h => by cases h⟩
            · cases he; exact ⟨True.intro, fun ne h => by cases h⟩
            · simp only [Option.bind_eq_bind, Option.pure_def] at he
              obtain ⟨_, _, he⟩ := bind_some he; obtain ⟨_, _, he⟩ := bind_some he
              cases he; exact ⟨True.intro, fun ne h => by cases h⟩
            · next fs hk =>
              have he' : (if P.stoodInHeld _ = true then none else _) = some ety := he
              by_cases hs : P.stoodInHeld T = true
              · rw [if_pos hs] at he'; cases he'
              · rw [if_neg hs] at he'
                obtain ⟨_, _, rfl⟩ := Option.map_eq_some_iff.mp he'
                exact ⟨True.intro, fun ne h => by cases h⟩
            · cases he
          exact ok_eqv_other hD.etys hg hf r ho hop hety hty.1 hty.2 (by simpa using hgt) hx' hy' hn
    split at hc
    · next hop => exact heqv false (.inl ⟨rfl, rfl⟩) hc
    · next hop => exact heqv true (.inr ⟨rfl, rfl⟩) hc
    · obtain ⟨x', hx', hc⟩ := bind_some hc; obtain ⟨y', hy', hc⟩ := bind_some hc
      cases hc; exact ok_bin hg hf r ho hx' hy' hn
  · next op T x ho => obtain ⟨y, hy, hc⟩ := bind_some hc; cases hc; exact ok_un hg hf r ho hy hn
  · next s d' x ho =>
    split at hc
    · next k0 k hs hd => obtain ⟨y, hy, hc⟩ := bind_some hc; cases hc; exact ok_convInt hg hf r ho hs hd hy hn
    · next hs hd => obtain ⟨y, hy, hc⟩ := bind_some hc; cases hc; exact ok_convStr hg hf r ho hs hd hy hn
    · next el hs hd =>
      split at hc
      · next he => obtain ⟨y, hy, hc⟩ := bind_some hc; cases hc; exact ok_strBytes hg hf r ho hs hd he hy hn
      · cases hc
    · next el hs hd =>
      split at hc
      · next he => obtain ⟨y, hy, hc⟩ := bind_some hc; cases hc; exact ok_bytesStr hg hf r ho hs hd he hy hn
      · cases hc
    · next el el2 hs hd =>
      split at hc
      · next he hsd =>
        obtain ⟨y, hy, hc⟩ := bind_some hc
        cases hc
        have hsd : s = d' := by simpa using hsd
        subst hsd
        exact ok_strish hg hf r ho hs he hy hn
      · cases hc
    · cases hc
  · next T x ho =>
    split at hc
    · cases hc
    · next dd hni hu => obtain ⟨y, hy, hc⟩ := bind_some hc; cases hc; exact ok_iface hg hf r ho hy hu (fun ms e' => by subst e'; exact (hni _ rfl).elim) hn
    · cases hc
  · next fn xs ys ho =>
    obtain ⟨xs', hxs', hc⟩ := bind_some hc; obtain ⟨ys', hys', hc⟩ := bind_some hc
    cases hc; exact ok_func hg hf r ho hxs' hys' hn
  · next T ho => cases hc; exact ok_mkMap r ho hn
  · next T l c ho =>
    split at hc
    · next el hu =>
      split at hc
      · next i hi =>
        obtain ⟨z, hz, hc⟩ := bind_some hc; obtain ⟨l', hl', hc⟩ := bind_some hc; obtain ⟨c', hc', hc⟩ := bind_some hc
        obtain ⟨_, zv, _, _, _⟩ := zero_info hz
        cases hc; exact ok_mkSlice (zv := zv) hg hf r ho hu hi hz hl' hc' hn
      · cases hc
    · cases hc
  · next T x lo hi mx ho =>
    split at hc
    · next hu =>
      split at hc
      · cases hc
      · next hmx =>
        have hmx : mx = none := by simpa using hmx
        subst hmx
        obtain ⟨x', hx', hc⟩ := bind_some hc; obtain ⟨lo', hlo', hc⟩ := bind_some hc; obtain ⟨hi', hhi', hc⟩ := bind_some hc
        cases hc; exact ok_sliceStr hg hf r ho hu hx' hlo' hhi' hn
    · next el hu =>
      split at hc
      · next hi1 mx1 =>
        obtain ⟨n, hs, hc⟩ := bind_some hc; obtain ⟨x', hx', hc⟩ := bind_some hc; obtain ⟨lo', hlo', hc⟩ := bind_some hc; obtain ⟨hi', hhi', hc⟩ := bind_some hc; obtain ⟨mx', hmx', hc⟩ := bind_some hc
        cases hc; exact ok_slice3 hg hf r ho hu hs hx' hlo' hhi' hmx' hn
      · obtain ⟨n, hs, hc⟩ := bind_some hc; obtain ⟨x', hx', hc⟩ := bind_some hc; obtain ⟨lo', hlo', hc⟩ := bind_some hc; obtain ⟨hi', hhi', hc⟩ := bind_some hc
        cases hc; exact ok_sliceSl hg hf r ho hu hs hx' hlo' hhi' hn
      · cases hc
    · next n el hu =>
      split at hc
      · cases hc
      · next hmx =>
        have hmx : mx = none := by simpa using hmx
        subst hmx
        obtain ⟨sz, hs, hc⟩ := bind_some hc; obtain ⟨x', hx', hc⟩ := bind_some hc; obtain ⟨lo', hlo', hc⟩ := bind_some hc; obtain ⟨hi', hhi', hc⟩ := bind_some hc
        cases hc; exact ok_sliceArr (A := 0) hg hf r ho (.inl hu) hs hx' hlo' hhi' hn
    · next A hu =>
      split at hc
      · next n el hA =>
        split at hc
        · cases hc
        · next hmx =>
          have hmx : mx = none := by simpa using hmx
          subst hmx
          obtain ⟨sz, hs, hc⟩ := bind_some hc; obtain ⟨x', hx', hc⟩ := bind_some hc; obtain ⟨lo', hlo', hc⟩ := bind_some hc; obtain ⟨hi', hhi', hc⟩ := bind_some hc
          cases hc; exact ok_sliceArr hg hf r ho (.inr ⟨hu, hA⟩) hs hx' hlo' hhi' hn
      · cases hc
    · cases hc
  · next T x f ho =>
    split at hc
    · next fs hu =>
      obtain ⟨fd, hfd, hc⟩ := bind_some hc; obtain ⟨n, hs, hc⟩ := bind_some hc
      split at hc
      · cases hc
      · next hn0 =>
        obtain ⟨x', hx', hc⟩ := bind_some hc
        cases hc; exact ok_fieldAddr hg hf r ho hu hfd hs hn0 hx' hn
    · cases hc
  · next T x f ho =>
    split at hc
    · next fs hu =>
      obtain ⟨fd, hfd, hc⟩ := bind_some hc; obtain ⟨dd, hdd, hc⟩ := bind_some hc; obtain ⟨n, hs, hc⟩ := bind_some hc; obtain ⟨x', hx', hc⟩ := bind_some hc
      cases hc; exact ok_field hg hf r ho hu hfd hs hdd hx' hn
    · cases hc
  · next T x i ho =>
    split at hc
    · next n el hu =>
      obtain ⟨sz, hs, hc⟩ := bind_some hc; obtain ⟨x', hx', hc⟩ := bind_some hc; obtain ⟨i', hi', hc⟩ := bind_some hc
      cases hc; exact ok_indexAddrA hg hf r ho hu hs hx' hi' hn
    · next el hu =>
      obtain ⟨sz, hs, hc⟩ := bind_some hc; obtain ⟨x', hx', hc⟩ := bind_some hc; obtain ⟨i', hi', hc⟩ := bind_some hc
      cases hc; exact ok_indexAddrS hg hf r ho hu hs hx' hi' hn
    · cases hc
  · next T x i ho =>
    split at hc
    · next hu =>
      obtain ⟨x', hx', hc⟩ := bind_some hc; obtain ⟨i', hi', hc⟩ := bind_some hc
      cases hc; exact ok_indexStr hg hf r ho hu hx' hi' hn
    · next n el hu =>
      obtain ⟨dd, hdd, hc⟩ := bind_some hc; obtain ⟨sz, hs, hc⟩ := bind_some hc; obtain ⟨x', hx', hc⟩ := bind_some hc; obtain ⟨i', hi', hc⟩ := bind_some hc
      cases hc; exact ok_indexArr hg hf r ho hu hs hdd hx' hi' hn
    · cases hc
  · next T m k cok ho =>
    obtain ⟨ks, hks, hc⟩ := bind_some hc; obtain ⟨z, hz, hc⟩ := bind_some hc; obtain ⟨m', hm', hc⟩ := bind_some hc; obtain ⟨k', hk', hc⟩ := bind_some hc
    cases hc
    obtain ⟨kt, el, kind, h1, h2, h3⟩ := primKey_ok hks
    have hz' : zeroT P el = some z := by unfold elemZero at hz; rw [h1] at hz; exact hz
    exact ok_lookup hg hf r ho h1 h2 h3 hz' hm' hk' hn
  · next T m k v ho =>
    obtain ⟨ks, hks, hc⟩ := bind_some hc; obtain ⟨m', hm', hc⟩ := bind_some hc; obtain ⟨k', hk', hc⟩ := bind_some hc; obtain ⟨v', hv', hc⟩ := bind_some hc
    cases hc
    obtain ⟨kt, el, kind, h1, h2, h3⟩ := primKey_ok hks
    exact ok_mapUpdate hg hf r (.inl ho) h1 h2 h3 hm' hk' hv' hn
  · next T m k v ho =>
    obtain ⟨ks, hks, hc⟩ := bind_some hc; obtain ⟨m', hm', hc⟩ := bind_some hc; obtain ⟨k', hk', hc⟩ := bind_some hc; obtain ⟨v', hv', hc⟩ := bind_some hc
    cases hc
    obtain ⟨kt, el, kind, h1, h2, h3⟩ := primKey_ok hks
    exact ok_mapUpdate hg hf r (.inr ho) h1 h2 h3 hm' hk' hv' hn
  · next T x ho =>
    split at hc
    · next hu => obtain ⟨x', hx', hc⟩ := bind_some hc; cases hc; exact ok_rangeStr hg hf r ho hu hx' hn
    · next kt el hu => obtain ⟨x', hx', hc⟩ := bind_some hc; cases hc; exact ok_rangeMap hg hf r ho hu hx' hn
    · cases hc
  · next it s ho =>
    split at hc
    · next hs => obtain ⟨x', hx', hc⟩ := bind_some hc; cases hc; subst hs; exact ok_nextStr hg hf r ho hx' hn
    · next hs =>
      obtain ⟨x', hx', hc⟩ := bind_some hc
      cases hc
      have hs : s = false := by simpa using hs
      subst hs
      exact ok_nextMap hg hf r ho hx' hn
  · next it ho => obtain ⟨x', hx', hc⟩ := bind_some hc; cases hc; exact ok_entry hg hf r ho hx' hn
  · next x X T cok ho =>
    split at hc
    · next ms hu =>
      split at hc
      · next hz => obtain ⟨x', hx', hc⟩ := bind_some hc; cases hc; exact ok_assertI hD.impl hz hg hf r ho hu hx' hn
      · cases hc
    · next dd hni hu =>
      obtain ⟨x', hx', hc⟩ := bind_some hc; obtain ⟨z, hz, hc⟩ := bind_some hc
      cases hc; exact ok_assertC hg hf r ho hu (fun ms e' => by subst e'; exact (hni _ rfl).elim) hz hx' hn
    · cases hc
  · next x i ho => obtain ⟨x', hx', hc⟩ := bind_some hc; cases hc; exact ok_extract hg hf r ho hx' hn
  · next c ho =>
    split at hc
    · next b hb => exact builtin_sound hg hf r ho hb hc hn
    · unfold callD' at hc
      split at hc
      · next f hcal =>
        simp only [Option.map_eq_some_iff] at hc
        obtain ⟨xs, hxs, rfl⟩ := hc
        exact ok_callF hg hf r ho hcal hxs hn
      · next x hcal =>
        simp only [Option.bind_eq_bind, Option.pure_def] at hc
        obtain ⟨x', hx', hc⟩ := bind_some hc; obtain ⟨xs, hxs, hc⟩ := bind_some hc
        cases hc; exact ok_callV hg hf r ho hcal hx' hxs hn
      · next x name hcal =>
        simp only [Option.bind_eq_bind, Option.pure_def] at hc
        obtain ⟨x', hx', hc⟩ := bind_some hc; obtain ⟨xs, hxs, hc⟩ := bind_some hc
        cases hc; exact ok_callM hD.methods hg hf r ho hcal hx' hxs hn
      · cases hc
  · cases hc; simp [opD] at hn
  · cases hc
end
end Go.Dx
/- D: a plain region. -/
namespace Go.Dx
open Go

/-- what an own call stands for -/
def CallOk (P : Program) (call : Caller) : Prop :=
  ∀ (e : Env) (h : DHeap) (w : World) (f : FuncId) (args : List DV) (v : DV) (h' : DHeap) (rargs : Array Value), call f args h = some (v, h') → Glob P e → Rep e h w → vals e args = some rargs.toList →
    (∃ f' args', (callFunc f rargs).run P w = .ok (.enter f' args') w ∧ Calls P f' args' w fun en w' => ∃ e' rv, en = .returned rv ∧ Step e h w e' h' w' ∧ val e' v = some rv) ∨
    (∃ rv e' w', (callFunc f rargs).run P w = .ok (.value rv) w' ∧ Step e h w e' h' w' ∧ val e' v = some rv)

theorem val_bool {e : Env} {v : DV} {c : Bool} (h : val e v = some (.bool c)) : v = .bool c := by
  cases v <;> simp only [val] at h <;> first | (cases h; rfl) | (exfalso; revert h; first | (split <;> intro h <;> cases h) | (intro h; cases h))

theorem FrR.put {e e' : Env} {t : Fr} {a : Act} (hf : FrR e t a.tmps) (l : Env.le e e') {v : DV} {rv : Value} (hv : val e' v = some rv) {d : Option Nat} (hd : ∀ k, d = some k → k < a.tmps.size) : FrR e' (Fr.put t d v) (a.put d rv).tmps := by
  have hf' := hf.le l
  cases d with
  | none => exact hf'
  | some k =>
    intro n
    have hk := hd k rfl
    simp only [Fr.put, Act.put, Tr.get_set]
    by_cases hn : n = k
    · subst hn
      simp only [if_true, Option.getD_some]
      rw [hv]
      simp [Array.getD, hk]
    · simp only [if_neg hn]
      rw [hf' n]
      have hn' : ¬ k = n := fun e => hn e.symm
      rw [Array.getD_eq_getD_getElem?, Array.getD_eq_getD_getElem?, Array.getElem?_setIfInBounds_ne hn']

theorem wanted_ok {e : Env} {t : Fr} {a : Act} {ops : Array Oper} {o : Oper} {g : Option (Nat × Bool)} (hf : FrR e t a.tmps)
    (hg : (match o.guard with | none => some none | some (j, b) => ((ops[j]?).bind (·.dst)).map fun d => some (d, b)) = some g) :
    Region.wanted o (yielded ops a.tmps) = wantedD g t := by
  unfold Region.wanted
  split at hg
  · next hn => cases hg; rw [hn]; rfl
  · next j b hn =>
    rw [hn]
    obtain ⟨d, hd, rfl⟩ := Option.map_eq_some_iff.mp hg
    simp only [wantedD, yielded, hd, Option.bind_some]
    have hv := hf d
    cases ht : t.get d with
    | none =>
      rw [ht] at hv
      simp only [Option.getD_none, undef_val, Option.some.injEq] at hv
      cases hx : a.tmps[d]? with
      | none => rfl
      | some x =>
        have : x = undef := by
          rw [Array.getD_eq_getD_getElem?, hx] at hv
          exact hv.symm
        subst this
        rfl
    | some y =>
      rw [ht] at hv
      simp only [Option.getD_some] at hv
      cases hx : a.tmps[d]? with
      | none =>
        rw [Array.getD_eq_getD_getElem?, hx] at hv
        have hy : ∀ c, y ≠ .bool c := fun c hc => by subst hc; simp [val, undef] at hv
        cases y <;> first | rfl | exact absurd rfl (hy _)
      | some x =>
        rw [Array.getD_eq_getD_getElem?, hx] at hv
        simp only [Option.getD_some] at hv
        by_cases hb : ∃ c, x = .bool c
        · obtain ⟨c, rfl⟩ := hb
          have := val_bool hv
          subst this
          cases b <;> cases c <;> rfl
        · have hy : ∀ c, y ≠ .bool c := fun c hc => by
            subst hc
            simp only [val, Option.some.injEq] at hv
            exact hb ⟨c, hv.symm⟩
          cases x <;> first | exact absurd ⟨_, rfl⟩ hb | (cases y <;> first | rfl | exact absurd rfl (hy _))

theorem operC_some {P : Program} {ops : Array Oper} {o : Oper} {d : DOper} (hc : operC P ops o = some d) :
    ∃ g op, (match o.guard with | none => some none | some (j, b) => ((ops[j]?).bind (·.dst)).map fun d => some (d, b)) = some g ∧ opC P o = some op ∧ d = ⟨o.dst, g, op⟩ := by
  unfold operC at hc
  simp only [Option.bind_eq_bind, Option.pure_def] at hc
  cases hgu : o.guard with
  | none =>
    rw [hgu] at hc
    simp only [Option.bind_some] at hc
    obtain ⟨op, hop, hc⟩ := bind_some hc
    cases hc
    exact ⟨_, _, rfl, hop, rfl⟩
  | some p =>
    obtain ⟨j, b⟩ := p
    rw [hgu] at hc
    simp only at hc
    obtain ⟨g, hg, hc⟩ := bind_some hc
    obtain ⟨op, hop, hc⟩ := bind_some hc
    cases hc
    exact ⟨_, _, hg, hop, rfl⟩

/-- compile one operation; its slot lies in the frame -/
def operN (P : Program) (n : Nat) (ops : Array Oper) (o : Oper) : Option DOper :=
  if o.dst.all (fun k => Nat.blt k n) then operC P ops o else none

theorem oper_sound {P : Program} {D : DProg} {call : Caller} {n : Nat} {ops : Array Oper} {o : Oper} {d : DOper} (hD : DOk P D) (hc : operN P n ops o = some d)
    (hcall : CallOk P call) {e : Env} {t : Fr} {a : Act} {h : DHeap} {w : World} (hg : Glob P e) (hf : FrR e t a.tmps) (hn : n ≤ a.tmps.size) (r : Rep e h w)
    {t' : Fr} {h' : DHeap} {os : List DOper} {out : Fr × DHeap} (hr : regionD D call (d :: os) t h = some out) {K : Act → World → Prop} {Q : Exit → Act → World → Prop}
    (hK : ∀ e' t' h' a' w', Step e h w e' h' w' → FrR e' t' a'.tmps → n ≤ a'.tmps.size → a'.defers = a.defers → regionD D call os t' h' = some out → K a' w') :
    if Region.wanted o (yielded ops a.tmps) then o.wp P a w K Q else K (a.put o.dst undef) w := by
  unfold operN at hc
  split at hc
  · next hdst =>
    have hdst' : ∀ k, o.dst = some k → k < a.tmps.size := fun k hk => by
      rw [hk] at hdst
      exact Nat.lt_of_lt_of_le (Nat.blt_eq.mp (by simpa using hdst)) hn
    obtain ⟨g, op, hgu, hop, rfl⟩ := operC_some hc
    have hput : ∀ v, n ≤ (a.put o.dst v).tmps.size := fun v => by cases o.dst <;> simp [Act.put, hn]
    have hdef : ∀ v, (a.put o.dst v).defers = a.defers := fun v => by cases o.dst <;> rfl
    rw [wanted_ok hf hgu]
    simp only [regionD] at hr
    split at hr
    · next hw =>
      rw [if_pos hw]
      unfold Oper.wp
      split at hr
      · next v hx =>
        obtain ⟨rv, hrun, hval⟩ := op_sound hD hg hf r hop hx
        rw [hrun]
        exact hK e _ _ _ _ (Step.refl r) (hf.put (Env.le.refl e) hval hdst') (hput _) (hdef _) hr
      · next v h1 hx =>
        obtain ⟨e', w', st, hv⟩ := op_sound hD hg hf r hop hx
        rcases hv with ⟨rv, hrun, hval⟩ | ⟨hrun, rfl⟩
        · rw [hrun]
          exact hK e' _ _ _ _ st (hf.put st.le hval hdst') (hput _) (hdef _) hr
        · rw [hrun]
          exact hK e' _ _ _ _ st (hf.put st.le (undef_val _) hdst') (hput _) (hdef _) hr
      · next f args h1 hx =>
        obtain ⟨rfl, rargs, hrun, hvs⟩ := op_sound hD hg hf r hop hx
        rw [hrun]
        split at hr
        · next v h2 hcl =>
          rcases hcall e h1 w f args v h2 rargs hcl hg r hvs with ⟨f', args', h3, h4⟩ | ⟨rv, e', w', h3, st, hval⟩
          · rw [h3, Oper.upon_enter]
            refine h4.mono fun en w' ⟨e', rv, he, st, hval⟩ => ?_
            subst he
            exact hK e' _ _ _ _ st (hf.put st.le hval hdst') (hput _) (hdef _) hr
          · rw [h3]
            exact hK e' _ _ _ _ st (hf.put st.le hval hdst') (hput _) (hdef _) hr
        · cases hr
      · cases hr
    · next hw =>
      rw [if_neg hw]
      exact hK e _ _ _ _ (Step.refl r) (hf.put (Env.le.refl e) (undef_val _) hdst') (hput _) (hdef _) hr
  · cases hc

theorem wpList_D {P : Program} {D : DProg} {call : Caller} {n : Nat} {ops : Array Oper} {Q : Exit → Act → World → Prop} (hD : DOk P D) (hcall : CallOk P call) :
    ∀ (l : List Oper) (dl : List DOper), l.mapM (operN P n ops) = some dl → ∀ (e : Env) (t : Fr) (a : Act) (h : DHeap) (w : World) (t' : Fr) (h' : DHeap), Glob P e → FrR e t a.tmps → n ≤ a.tmps.size → Rep e h w →
      regionD D call dl t h = some (t', h') → (∀ e' a' w', Step e h w e' h' w' → FrR e' t' a'.tmps → n ≤ a'.tmps.size → a'.defers = a.defers → Q .normal a' w') → wpList P ops Q l a w
  | [], dl, hm, e, t, a, h, w, t', h', hg, hf, hn, r, hr, hQ => by
    simp only [List.mapM_nil, Option.pure_def, Option.some.injEq] at hm
    subst hm
    simp only [regionD, Option.some.injEq, Prod.mk.injEq] at hr
    obtain ⟨rfl, rfl⟩ := hr
    exact hQ e a w (Step.refl r) hf hn rfl
  | o :: l, dl, hm, e, t, a, h, w, t', h', hg, hf, hn, r, hr, hQ => by
    simp only [List.mapM_cons, Option.bind_eq_bind, Option.pure_def] at hm
    obtain ⟨d, hd, hm⟩ := bind_some hm
    obtain ⟨ds, hds, hm⟩ := bind_some hm
    cases hm
    refine wpList_step fun K hK => oper_sound hD hd hcall hg hf hn r (t' := t') (h' := h') hr fun e1 t1 h1 a1 w1 st hf1 hn1 hdf1 hr1 => hK _ _ ?_
    exact wpList_D hD hcall l ds hds e1 t1 a1 h1 w1 t' h' (hg.le st.le) hf1 hn1 st.rep hr1 fun e' a' w' st' hf' hn' hdf' => hQ e' a' w' (st.trans st') hf' hn' (hdf'.trans hdf1)
end Go.Dx
