/- D: every operation. -/
import Derived.Test.YtfdplefijefeiaaGreatDoorZo
namespace Go.Dx
open Go

structure DOk (P : Program) (D : DProg) : Prop where
  etys : ∀ T x, D.etys T = some x → etyD P 8 T = some x ∧ ∃ i, P.info? T = some i ∧ i.comparable = true
  methods : ∀ T name q, D.methods T name = some q → q.2 = .same ∧ methodD P T name = some q
  impl : ∀ T U b, D.impl T U = some b → implD P T U = some b
theorem zero_info {P : Program} {T : TypeId} {z : DV} (h : zeroT P T = some z) : ∃ i zv, P.info? T = some i ∧ i.zero = some zv ∧ ∀ e, val e z = some zv := by
  unfold zeroT at h
  cases hi : P.info? T with
  | none => simp [hi] at h
  | some i =>
    simp only [hi, Option.bind_some] at h
    cases hz : i.zero with
    | none => simp [hz] at h
    | some v =>
      simp only [hz, Option.bind_some] at h
      exact ⟨i, v, rfl, hz, fun e => valD_val e 4 v z h⟩
theorem primKey_ok {P : Program} {T : TypeId} {ks : Bool} (h : primKey P T = some ks) : ∃ kt el kind, P.underlying T = some (.map kt el) ∧ P.underlying kt = some kind ∧ keyKind ks kind := by
  unfold primKey at h
  split at h
  · next kt el hT =>
    split at h
    · next k hk => cases h; exact ⟨kt, el, _, hT, hk, ⟨k, rfl⟩⟩
    · next hk => cases h; exact ⟨kt, el, _, hT, hk, rfl⟩
    · cases h
  · cases h

section
variable {P : Program} {e : Env} {t : Fr} {a : Act} {h : DHeap} {w : World} {o : Oper} {D : DProg} {nx : Nx}

theorem builtin_sound {b : Builtin} {c : Call} {d : DOp} (hg : Glob P e) (hf : FrR e t a.tmps) (r : Rep e h w) (ho : o.op = .call c) (hcal : c.callee = .builtin b) (hc : builtinD P b c = some d) (hn : opD D t h d = some nx) : NxOk P e h w (execOp a.eval o) nx := by
  unfold builtinD at hc
  split at hc
  · next x hxs =>
    simp only [Option.bind_eq_bind, Option.pure_def] at hc
    obtain ⟨T, hT, hc⟩ := bind_some hc
    split at hc
    · next hu => obtain ⟨y, hy, hc⟩ := bind_some hc; cases hc; exact ok_lenStr hg hf r ho hcal hxs hT hu hy hn
    · next el hu => obtain ⟨y, hy, hc⟩ := bind_some hc; cases hc; exact ok_lenSl hg hf r ho hcal hxs hT hu hy hn
    · next kt el hu => obtain ⟨y, hy, hc⟩ := bind_some hc; cases hc; exact ok_lenMap hg hf r ho hcal hxs hT hu hy hn
    · next n el hu => cases hc; exact ok_lenArr hg hf r ho hcal hxs hT (.inl ⟨_, hu⟩) hn
    · next A hu =>
      split at hc
      · next n el hA => cases hc; exact ok_lenArr hg hf r ho hcal hxs hT (.inr ⟨_, _, hu, hA⟩) hn
      · cases hc
    · cases hc
  · next x y hxs =>
    simp only [Option.bind_eq_bind, Option.pure_def] at hc
    obtain ⟨T, hT, hc⟩ := bind_some hc
    split at hc
    · next el hu =>
      obtain ⟨T1, hT1, hc⟩ := bind_some hc
      have hfin : ∀ hk : (∃ e', P.underlying T1 = some (.slice e')) ∨ P.underlying T1 = some .string, (match P.info? el, zeroT P el with
        | some i, some z => if z.cells.length = i.size then ((opdD P x).bind fun x' => (opdD P y).bind fun y' => some (DOp.append i.size i.bytes [] x' y')) else none
        | _, _ => none) = some d → NxOk P e h w (execOp a.eval o) nx := fun hk hc => by
        split at hc
        · next i z hi hz =>
          split at hc
          · next hlen =>
            obtain ⟨x', hx', hc⟩ := bind_some hc
            obtain ⟨y', hy', hc⟩ := bind_some hc
            cases hc
            obtain ⟨i', zv, h1, h2, h3⟩ := zero_info hz
            rw [hi] at h1
            cases h1
            have hzs : zv.cells.size = i.size := by rw [← hlen]; have := vals_length (cells_val (h3 e)); simpa using this
            exact ok_append hg hf r ho hcal hxs hT hT1 hu hk hi h2 hzs hx' hy' hn
          · cases hc
        · cases hc
      split at hc
      · next e' hk => exact hfin (.inl ⟨_, hk⟩) hc
      · next hk => exact hfin (.inr hk) hc
      · cases hc
    · cases hc
  · next x y hxs =>
    simp only [Option.bind_eq_bind, Option.pure_def] at hc
    obtain ⟨T, hT, hc⟩ := bind_some hc
    split at hc
    · next el hu =>
      obtain ⟨sz, hs, hc⟩ := bind_some hc
      obtain ⟨x', hx', hc⟩ := bind_some hc
      obtain ⟨y', hy', hc⟩ := bind_some hc
      cases hc
      exact ok_copy hg hf r ho hcal hxs hT hu hs hx' hy' hn
    · cases hc
  · next m k hxs =>
    simp only [Option.bind_eq_bind, Option.pure_def] at hc
    obtain ⟨T, hT, hc⟩ := bind_some hc
    obtain ⟨ks, hks, hc⟩ := bind_some hc
    obtain ⟨x', hx', hc⟩ := bind_some hc
    obtain ⟨y', hy', hc⟩ := bind_some hc
    cases hc
    obtain ⟨kt, el, kind, h1, h2, h3⟩ := primKey_ok hks
    exact ok_delete hg hf r ho hcal hxs hT h1 h2 h3 hx' hy' hn
  · next x hxs =>
    simp only [Option.bind_eq_bind, Option.pure_def] at hc
    obtain ⟨T, hT, hc⟩ := bind_some hc
    split at hc
    · next el hu => obtain ⟨y, hy, hc⟩ := bind_some hc; cases hc; exact ok_capSl hg hf r ho hcal hxs hT hu hy hn
    · cases hc
  · next x hxs =>
    simp only [Option.bind_eq_bind, Option.pure_def] at hc
    obtain ⟨T, hT, hc⟩ := bind_some hc
    split at hc
    · next kt el hu => obtain ⟨y, hy, hc⟩ := bind_some hc; cases hc; exact ok_clearMap hg hf r ho hcal hxs hT hu hy hn
    · cases hc
  · next xs hxs =>
    simp only [Option.bind_eq_bind, Option.pure_def] at hc
    obtain ⟨ys, hys, hc⟩ := bind_some hc
    cases hc
    exact ok_minmax (b := true) hg hf r ho hcal hys hn
  · next xs hxs =>
    simp only [Option.bind_eq_bind, Option.pure_def] at hc
    obtain ⟨ys, hys, hc⟩ := bind_some hc
    cases hc
    exact ok_minmax (b := false) hg hf r ho hcal hys hn
  · cases hc
end
end Go.Dx
