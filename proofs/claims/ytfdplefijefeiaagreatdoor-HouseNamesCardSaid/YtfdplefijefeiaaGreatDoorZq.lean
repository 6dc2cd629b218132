/- D: EVERY OPERATION. -/
import Derived.Test.YtfdplefijefeiaaGreatDoorZp
namespace Go.Dx
open Go

section
variable {P : Program} {e : Env} {t : Fr} {a : Act} {h : DHeap} {w : World} {o : Oper} {D : DProg} {nx : Nx}

theorem op_sound {d : DOp} (hD : DOk P D) (hg : Glob P e) (hf : FrR e t a.tmps) (r : Rep e h w) (hc : opC P o = some d) (hn : opD D t h d = some nx) : NxOk P e h w (execOp a.eval o) nx := by
  unfold opC at hc
  simp only [Option.bind_eq_bind, Option.pure_def] at hc
  split at hc
  · next x ho => obtain ⟨y, hy, hc⟩ := bind_some hc; cases hc; exact ok_move hg hf r (.inl ho) hy hn
  · next x ho => obtain ⟨y, hy, hc⟩ := bind_some hc; cases hc; exact ok_move hg hf r (.inr ho) hy hn
  · next c x y ho =>
    obtain ⟨c', hc', hc⟩ := bind_some hc; obtain ⟨x', hx', hc⟩ := bind_some hc; obtain ⟨y', hy', hc⟩ := bind_some hc
    cases hc; exact ok_pick hg hf r ho hc' hx' hy' hn
  · next el ho => obtain ⟨z, hz, hc⟩ := bind_some hc; cases hc; exact ok_alloc r ho hz hn
  · next el x ho => obtain ⟨y, hy, hc⟩ := bind_some hc; cases hc; exact ok_box hg hf r ho hy hn
  · next T ps ho =>
    obtain ⟨z, hz, hc⟩ := bind_some hc; obtain ⟨ds, hds, hc⟩ := bind_some hc
    cases hc; exact ok_build hg hf r ho hz hds hn
  · next T n ps ho =>
    split at hc
    · next el hu =>
      split at hc
      · next i z hi hz =>
        unfold bsliceD at hc
        split at hc
        · next hle =>
          split at hc
          · next ds hds => cases hc; exact ok_buildSlice hg hf r ho hu hi hz hle.1 hle.2 hds hn
          · cases hc
        · cases hc
      · cases hc
    · cases hc
  · next T x ho =>
    split at hc
    · cases hc
    · next dd hu =>
      split at hc
      · next hT =>
        obtain ⟨n, hs, hc⟩ := bind_some hc; obtain ⟨x', hx', hc⟩ := bind_some hc
        cases hc; exact ok_loadN hg hf r ho hu hT hs hx' hn
      · next hT =>
        obtain ⟨x', hx', hc⟩ := bind_some hc
        cases hc; exact ok_load1 hg hf r ho hu (by simpa using hT) hx' hn
  · next T x y ho =>
    obtain ⟨n, hs, hc⟩ := bind_some hc; obtain ⟨x', hx', hc⟩ := bind_some hc; obtain ⟨y', hy', hc⟩ := bind_some hc
    cases hc; exact ok_store hg hf r ho hs hx' hy' hn
  · next x ho => obtain ⟨y, hy, hc⟩ := bind_some hc; cases hc; exact ok_nilCheck hg hf r ho hy hn
  · next op T x y T' ho =>
    have heqv : ∀ neg, ((op = .eql ∧ neg = false) ∨ (op = .neq ∧ neg = true)) → (match P.underlying T with
        | some (.int _) => (opdD P x).bind fun x' => (opdD P y).bind fun y' => some (DOp.bin op x' y')
        | some .string => (opdD P x).bind fun x' => (opdD P y).bind fun y' => some (DOp.bin op x' y')
        | some (.interface ms) => (opdD P x).bind fun x' => (opdD P y).bind fun y' => some (DOp.eqv neg (.iface (!ms.isEmpty && !isConstO x && !isConstO y)) x' y')
        | _ => if P.eqGuardType P.depth T = true then none else (etyD P 8 T).bind fun ety => (opdD P x).bind fun x' => (opdD P y).bind fun y' => some (DOp.eqv neg ety x' y')) = some d → NxOk P e h w (execOp a.eval o) nx := fun neg hop hc => by
      split at hc
      · obtain ⟨x', hx', hc⟩ := bind_some hc; obtain ⟨y', hy', hc⟩ := bind_some hc
        cases hc; exact ok_bin hg hf r ho hx' hy' hn
      · obtain ⟨x', hx', hc⟩ := bind_some hc; obtain ⟨y', hy', hc⟩ := bind_some hc
        cases hc; exact ok_bin hg hf r ho hx' hy' hn
      · next ms hu =>
        obtain ⟨x', hx', hc⟩ := bind_some hc; obtain ⟨y', hy', hc⟩ := bind_some hc
        cases hc; exact ok_eqv_iface hD.etys hg hf r ho hop hu hx' hy' hn
      · next hn1 hn2 hn3 =>
        split at hc
        · cases hc
        · next hgt =>
          obtain ⟨ety, hety, hc⟩ := bind_some hc; obtain ⟨x', hx', hc⟩ := bind_some hc; obtain ⟨y', hy', hc⟩ := bind_some hc
          cases hc
          have hty : BigTy ety ∧ ∀ ne, ety ≠ .iface ne := by
            have he := hety
            rw [show (8 : Nat) = 7 + 1 from rfl] at he
            simp only [etyD] at he
            split at he
            · cases he; exact ⟨True.intro, fun ne h => by cases h⟩
            · next k hk => exact (hn1 k hk).elim
            · next hk => exact (hn2 hk).elim
            · split at he
              · cases he
              · cases he; exact ⟨True.intro, fun ne h => by cases h⟩
              · cases he
            · next ms hk => exact (hn3 ms hk).elim
            · cases he; exact ⟨True.intro, fun ne h => by cases h⟩
            · cases he; exact ⟨True.intro, fun ne h => by cases h⟩
            · cases he; exact ⟨True.intro, fun ne h => by cases h⟩
            · simp only [Option.bind_eq_bind, Option.pure_def] at he
              obtain ⟨_, _, he⟩ := bind_some he; obtain ⟨_, _, he⟩ := bind_some he
              cases he; exact ⟨True.intro, fun ne h => by cases h⟩
            · next fs hk =>
              have he' : (if P.stoodInHeld _ = true then none else _) = some ety := he
              by_cases hs : P.stoodInHeld T = true
              · rw [if_pos hs] at he'; cases he'
              · rw [if_neg hs] at he'
                obtain ⟨_, _, rfl⟩ := Option.map_eq_some_iff.mp he'
                exact ⟨True.intro, fun ne h => by cases h⟩
            · cases he
          exact ok_eqv_other hD.etys hg hf r ho hop hety hty.1 hty.2 (by simpa using hgt) hx' hy' hn
    split at hc
    · next hop => exact heqv false (.inl ⟨rfl, rfl⟩) hc
    · next hop => exact heqv true (.inr ⟨rfl, rfl⟩) hc
    · obtain ⟨x', hx', hc⟩ := bind_some hc; obtain ⟨y', hy', hc⟩ := bind_some hc
      cases hc; exact ok_bin hg hf r ho hx' hy' hn
  · next op T x ho => obtain ⟨y, hy, hc⟩ := bind_some hc; cases hc; exact ok_un hg hf r ho hy hn
  · next s d' x ho =>
    split at hc
    · next k0 k hs hd => obtain ⟨y, hy, hc⟩ := bind_some hc; cases hc; exact ok_convInt hg hf r ho hs hd hy hn
    · next hs hd => obtain ⟨y, hy, hc⟩ := bind_some hc; cases hc; exact ok_convStr hg hf r ho hs hd hy hn
    · next el hs hd =>
      split at hc
      · next he => obtain ⟨y, hy, hc⟩ := bind_some hc; cases hc; exact ok_strBytes hg hf r ho hs hd he hy hn
      · cases hc
    · next el hs hd =>
      split at hc
      · next he => obtain ⟨y, hy, hc⟩ := bind_some hc; cases hc; exact ok_bytesStr hg hf r ho hs hd he hy hn
      · cases hc
    · next el el2 hs hd =>
      split at hc
      · next he hsd =>
        obtain ⟨y, hy, hc⟩ := bind_some hc
        cases hc
        have hsd : s = d' := by simpa using hsd
        subst hsd
        exact ok_strish hg hf r ho hs he hy hn
      · cases hc
    · cases hc
  · next T x ho =>
    split at hc
    · cases hc
    · next dd hni hu => obtain ⟨y, hy, hc⟩ := bind_some hc; cases hc; exact ok_iface hg hf r ho hy hu (fun ms e' => by subst e'; exact (hni _ rfl).elim) hn
    · cases hc
  · next fn xs ys ho =>
    obtain ⟨xs', hxs', hc⟩ := bind_some hc; obtain ⟨ys', hys', hc⟩ := bind_some hc
    cases hc; exact ok_func hg hf r ho hxs' hys' hn
  · next T ho => cases hc; exact ok_mkMap r ho hn
  · next T l c ho =>
    split at hc
    · next el hu =>
      split at hc
      · next i hi =>
        obtain ⟨z, hz, hc⟩ := bind_some hc; obtain ⟨l', hl', hc⟩ := bind_some hc; obtain ⟨c', hc', hc⟩ := bind_some hc
        obtain ⟨_, zv, _, _, _⟩ := zero_info hz
        cases hc; exact ok_mkSlice (zv := zv) hg hf r ho hu hi hz hl' hc' hn
      · cases hc
    · cases hc
  · next T x lo hi mx ho =>
    split at hc
    · next hu =>
      split at hc
      · cases hc
      · next hmx =>
        have hmx : mx = none := by simpa using hmx
        subst hmx
        obtain ⟨x', hx', hc⟩ := bind_some hc; obtain ⟨lo', hlo', hc⟩ := bind_some hc; obtain ⟨hi', hhi', hc⟩ := bind_some hc
        cases hc; exact ok_sliceStr hg hf r ho hu hx' hlo' hhi' hn
    · next el hu =>
      split at hc
      · next hi1 mx1 =>
        obtain ⟨n, hs, hc⟩ := bind_some hc; obtain ⟨x', hx', hc⟩ := bind_some hc; obtain ⟨lo', hlo', hc⟩ := bind_some hc; obtain ⟨hi', hhi', hc⟩ := bind_some hc; obtain ⟨mx', hmx', hc⟩ := bind_some hc
        cases hc; exact ok_slice3 hg hf r ho hu hs hx' hlo' hhi' hmx' hn
      · obtain ⟨n, hs, hc⟩ := bind_some hc; obtain ⟨x', hx', hc⟩ := bind_some hc; obtain ⟨lo', hlo', hc⟩ := bind_some hc; obtain ⟨hi', hhi', hc⟩ := bind_some hc
        cases hc; exact ok_sliceSl hg hf r ho hu hs hx' hlo' hhi' hn
      · cases hc
    · next n el hu =>
      split at hc
      · cases hc
      · next hmx =>
        have hmx : mx = none := by simpa using hmx
        subst hmx
        obtain ⟨sz, hs, hc⟩ := bind_some hc; obtain ⟨x', hx', hc⟩ := bind_some hc; obtain ⟨lo', hlo', hc⟩ := bind_some hc; obtain ⟨hi', hhi', hc⟩ := bind_some hc
        cases hc; exact ok_sliceArr (A := 0) hg hf r ho (.inl hu) hs hx' hlo' hhi' hn
    · next A hu =>
      split at hc
      · next n el hA =>
        split at hc
        · cases hc
        · next hmx =>
          have hmx : mx = none := by simpa using hmx
          subst hmx
          obtain ⟨sz, hs, hc⟩ := bind_some hc; obtain ⟨x', hx', hc⟩ := bind_some hc; obtain ⟨lo', hlo', hc⟩ := bind_some hc; obtain ⟨hi', hhi', hc⟩ := bind_some hc
          cases hc; exact ok_sliceArr hg hf r ho (.inr ⟨hu, hA⟩) hs hx' hlo' hhi' hn
      · cases hc
    · cases hc
  · next T x f ho =>
    split at hc
    · next fs hu =>
      obtain ⟨fd, hfd, hc⟩ := bind_some hc; obtain ⟨n, hs, hc⟩ := bind_some hc
      split at hc
      · cases hc
      · next hn0 =>
        obtain ⟨x', hx', hc⟩ := bind_some hc
        cases hc; exact ok_fieldAddr hg hf r ho hu hfd hs hn0 hx' hn
    · cases hc
  · next T x f ho =>
    split at hc
    · next fs hu =>
      obtain ⟨fd, hfd, hc⟩ := bind_some hc; obtain ⟨dd, hdd, hc⟩ := bind_some hc; obtain ⟨n, hs, hc⟩ := bind_some hc; obtain ⟨x', hx', hc⟩ := bind_some hc
      cases hc; exact ok_field hg hf r ho hu hfd hs hdd hx' hn
    · cases hc
  · next T x i ho =>
    split at hc
    · next n el hu =>
      obtain ⟨sz, hs, hc⟩ := bind_some hc; obtain ⟨x', hx', hc⟩ := bind_some hc; obtain ⟨i', hi', hc⟩ := bind_some hc
      cases hc; exact ok_indexAddrA hg hf r ho hu hs hx' hi' hn
    · next el hu =>
      obtain ⟨sz, hs, hc⟩ := bind_some hc; obtain ⟨x', hx', hc⟩ := bind_some hc; obtain ⟨i', hi', hc⟩ := bind_some hc
      cases hc; exact ok_indexAddrS hg hf r ho hu hs hx' hi' hn
    · cases hc
  · next T x i ho =>
    split at hc
    · next hu =>
      obtain ⟨x', hx', hc⟩ := bind_some hc; obtain ⟨i', hi', hc⟩ := bind_some hc
      cases hc; exact ok_indexStr hg hf r ho hu hx' hi' hn
    · next n el hu =>
      obtain ⟨dd, hdd, hc⟩ := bind_some hc; obtain ⟨sz, hs, hc⟩ := bind_some hc; obtain ⟨x', hx', hc⟩ := bind_some hc; obtain ⟨i', hi', hc⟩ := bind_some hc
      cases hc; exact ok_indexArr hg hf r ho hu hs hdd hx' hi' hn
    · cases hc
  · next T m k cok ho =>
    obtain ⟨ks, hks, hc⟩ := bind_some hc; obtain ⟨z, hz, hc⟩ := bind_some hc; obtain ⟨m', hm', hc⟩ := bind_some hc; obtain ⟨k', hk', hc⟩ := bind_some hc
    cases hc
    obtain ⟨kt, el, kind, h1, h2, h3⟩ := primKey_ok hks
    have hz' : zeroT P el = some z := by unfold elemZero at hz; rw [h1] at hz; exact hz
    exact ok_lookup hg hf r ho h1 h2 h3 hz' hm' hk' hn
  · next T m k v ho =>
    obtain ⟨ks, hks, hc⟩ := bind_some hc; obtain ⟨m', hm', hc⟩ := bind_some hc; obtain ⟨k', hk', hc⟩ := bind_some hc; obtain ⟨v', hv', hc⟩ := bind_some hc
    cases hc
    obtain ⟨kt, el, kind, h1, h2, h3⟩ := primKey_ok hks
    exact ok_mapUpdate hg hf r (.inl ho) h1 h2 h3 hm' hk' hv' hn
  · next T m k v ho =>
    obtain ⟨ks, hks, hc⟩ := bind_some hc; obtain ⟨m', hm', hc⟩ := bind_some hc; obtain ⟨k', hk', hc⟩ := bind_some hc; obtain ⟨v', hv', hc⟩ := bind_some hc
    cases hc
    obtain ⟨kt, el, kind, h1, h2, h3⟩ := primKey_ok hks
    exact ok_mapUpdate hg hf r (.inr ho) h1 h2 h3 hm' hk' hv' hn
  · next T x ho =>
    split at hc
    · next hu => obtain ⟨x', hx', hc⟩ := bind_some hc; cases hc; exact ok_rangeStr hg hf r ho hu hx' hn
    · next kt el hu => obtain ⟨x', hx', hc⟩ := bind_some hc; cases hc; exact ok_rangeMap hg hf r ho hu hx' hn
    · cases hc
  · next it s ho =>
    split at hc
    · next hs => obtain ⟨x', hx', hc⟩ := bind_some hc; cases hc; subst hs; exact ok_nextStr hg hf r ho hx' hn
    · next hs =>
      obtain ⟨x', hx', hc⟩ := bind_some hc
      cases hc
      have hs : s = false := by simpa using hs
      subst hs
      exact ok_nextMap hg hf r ho hx' hn
  · next it ho => obtain ⟨x', hx', hc⟩ := bind_some hc; cases hc; exact ok_entry hg hf r ho hx' hn
  · next x X T cok ho =>
    split at hc
    · next ms hu =>
      split at hc
      · next hz => obtain ⟨x', hx', hc⟩ := bind_some hc; cases hc; exact ok_assertI hD.impl hz hg hf r ho hu hx' hn
      · cases hc
    · next dd hni hu =>
      obtain ⟨x', hx', hc⟩ := bind_some hc; obtain ⟨z, hz, hc⟩ := bind_some hc
      cases hc; exact ok_assertC hg hf r ho hu (fun ms e' => by subst e'; exact (hni _ rfl).elim) hz hx' hn
    · cases hc
  · next x i ho => obtain ⟨x', hx', hc⟩ := bind_some hc; cases hc; exact ok_extract hg hf r ho hx' hn
  · next c ho =>
    split at hc
    · next b hb => exact builtin_sound hg hf r ho hb hc hn
    · unfold callD' at hc
      split at hc
      · next f hcal =>
        simp only [Option.map_eq_some_iff] at hc
        obtain ⟨xs, hxs, rfl⟩ := hc
        exact ok_callF hg hf r ho hcal hxs hn
      · next x hcal =>
        simp only [Option.bind_eq_bind, Option.pure_def] at hc
        obtain ⟨x', hx', hc⟩ := bind_some hc; obtain ⟨xs, hxs, hc⟩ := bind_some hc
        cases hc; exact ok_callV hg hf r ho hcal hx' hxs hn
      · next x name hcal =>
        simp only [Option.bind_eq_bind, Option.pure_def] at hc
        obtain ⟨x', hx', hc⟩ := bind_some hc; obtain ⟨xs, hxs, hc⟩ := bind_some hc
        cases hc; exact ok_callM hD.methods hg hf r ho hcal hx' hxs hn
      · cases hc
  · cases hc; simp [opD] at hn
  · cases hc
end
end Go.Dx
