/- The run of shown, whole. -/
import Derived.Test.YtfdplefijefeiaaGreatDoorNRa
import Derived.Test.YtfdplefijefeiaaGreatDoorNRb
namespace Go.Proofs.YtfdplefijefeiaaGreatDoor
open Go.Dx
theorem cutS_ok (P : DProg) (call : Caller) (fuel : Nat) : ∀ (k : Nat) (c p q : DCode), cutS k c = some (p, q) → ∀ t h, codeF P call fuel c t h = (match codeF P call fuel p t h with
    | some (.normal, t', h') => codeF P call fuel q t' h'
    | r => r)
  | 0, c, p, q, hc, t, h => by simp [cutS] at hc
  | 1, c, p, q, hc, t, h => by
    cases c with
    | seq a r =>
      simp only [cutS, Option.some.injEq, Prod.mk.injEq] at hc
      obtain ⟨rfl, rfl⟩ := hc
      rfl
    | _ => simp [cutS] at hc
  | k + 2, c, p, q, hc, t, h => by
    cases c with
    | seq a r =>
      simp only [cutS, Option.map_eq_some_iff, Prod.mk.injEq] at hc
      obtain ⟨⟨p', q'⟩, hr, rfl, rfl⟩ := hc
      have ih := cutS_ok P call fuel (k + 1) r p' q' hr
      simp only [codeF]
      cases hca : codeF P call fuel a t h with
      | none => rfl
      | some x =>
        obtain ⟨ex, t', h'⟩ := x
        cases ex with
        | normal => exact ih t' h'
        | exit i => rfl
        | ret => rfl
    | _ => simp [cutS] at hc
theorem codeF_cut {P : DProg} {call : Caller} {fuel k : Nat} {c p q : DCode} {t t' : Fr} {h h' : DHeap} (hc : cutS k c = some (p, q)) (h1 : codeF P call fuel p t h = some (.normal, t', h')) : codeF P call fuel c t h = codeF P call fuel q t' h' := by
  rw [cutS_ok P call fuel k c p q hc, h1]
theorem callF_of {P : DProg} {fuel n f : Nat} {args : List DV} {h : DHeap} {d : DFunc} {v : DV} {r : Option (Ex × Fr × DHeap)} (hs : P.spec f = none) (hf : P.funcs f = some d)
    (hr : codeF P (callF P fuel n) fuel d.body (frameD 0 args .nil) h = r) (hfin : finF d.results r = some v) : (callF P fuel (n + 1) f args h).map (·.1) = some v := by
  unfold callF
  simp only [hf, hs, hr]
  cases r with
  | none => cases hfin
  | some x =>
    obtain ⟨ex, t, h⟩ := x
    cases ex with
    | exit i => cases hfin
    | normal =>
      have h2 : retD t h d.results = some v := hfin
      simp only [h2]
      rfl
    | ret =>
      have h2 : retD t h d.results = some v := hfin
      simp only [h2]
      rfl
theorem cut7 : cutS 9 d7.body = some (preS 9 d7.body, postS 9 d7.body) := by kernel_rfl
theorem funcs7 : DP.funcs 7 = some d7 := by kernel_rfl
theorem spec7 : DP.spec 7 = none := by kernel_rfl
theorem run7 (m : Int) : (callF DP 5000 (59 + 1) 7 [] (h0 m)).map (·.1) = some (.bool true) :=
  callF_of (n := 59) spec7 funcs7 (codeF_cut cut7 (stage1 m)) (stage2 m)
end Go.Proofs.YtfdplefijefeiaaGreatDoor
