/- D: maps. -/
import Derived.Test.YtfdplefijefeiaaGreatDoorZe
namespace Go.Dx
open Go

def keyKind (ks : Bool) (d : TypeDesc) : Prop := if ks then d = .string else ∃ k, d = .int k
theorem bytesBeq (a b : List UInt8) : ((⟨a.toArray⟩ : ByteArray) == ⟨b.toArray⟩) = bytesEq a b := by
  rw [bytesEq_eq]
  show (a.toArray == b.toArray) = _
  by_cases h : a = b
  · subst h; simp
  · rw [beq_false_of_ne h]
    apply beq_false_of_ne
    intro e
    exact h (by simpa using e)
theorem same_ok {e : Env} {ks : Bool} {kind : TypeDesc} (hk : keyKind ks kind) {a b : DV} {x y : Value} (ha : val e a = some x) (hb : val e b = some y) {r : Bool} (h : keyEq ks a b = some r) : Instr.sameNow kind x y = some r ∧ (r = true → x = y ∧ Instr.sameBits 10000 y x = true) := by
  cases a with
  | int k n =>
    cases b with
    | int k' m =>
      simp only [val, Option.some.injEq] at ha hb
      subst ha; subst hb
      simp only [keyEq] at h
      split at h
      · cases h
      · next hks =>
        split at h
        · next hkk =>
          cases h
          subst hkk
          obtain ⟨kk, rfl⟩ : ∃ k, kind = .int k := by simpa [keyKind, hks] using hk
          refine ⟨?_, fun hr => ?_⟩
          · simp only [Instr.sameNow, if_true]
            rfl
          · have hr : n = m := by simpa using hr
            subst hr
            exact ⟨rfl, by rw [show (10000 : Nat) = 9999 + 1 from rfl]; simp [Instr.sameBits]⟩
        · cases h
    | _ => simp [keyEq] at h
  | str s =>
    cases b with
    | str s' =>
      simp only [val, Option.some.injEq] at ha hb
      subst ha; subst hb
      simp only [keyEq] at h
      split at h
      · next hks =>
        cases h
        have : kind = .string := by simpa [keyKind, hks] using hk
        subst this
        refine ⟨?_, fun hr => ?_⟩
        · simp only [Instr.sameNow, bytesBeq]
        · rw [bytesEq_eq] at hr
          have hr : s = s' := by simpa using hr
          subst hr
          exact ⟨rfl, by rw [show (10000 : Nat) = 9999 + 1 from rfl]; simp [Instr.sameBits, bytesBeq, bytesEq_eq]⟩
      · cases h
    | _ => simp [keyEq] at h
  | _ => simp [keyEq] at h

theorem ents_length {e : Env} : ∀ {es : List (DV × DV × Nat)} {ms : List MapEntry}, ents e es = some ms → ms.length = es.length
  | [], ms, h => by simp [ents] at h; rw [h]; rfl
  | (k, v, n) :: es, ms, h => by
    obtain ⟨k', v', es', rfl, _, _, hs⟩ := ents_cons h
    simp [ents_length hs]
theorem ents_append {e : Env} : ∀ {a b : List (DV × DV × Nat)} {x y : List MapEntry}, ents e a = some x → ents e b = some y → ents e (a ++ b) = some (x ++ y)
  | [], b, x, y, h, g => by simp [ents] at h; subst h; simpa using g
  | (k, v, n) :: a, b, x, y, h, g => by
    obtain ⟨k', v', es', rfl, hk, hv, hs⟩ := ents_cons h
    simp [ents, hk, hv, ents_append hs g]
/-- a key that is there, or is not -/
theorem find_ok {e : Env} {ks : Bool} {kind : TypeDesc} (hk : keyKind ks kind) {k : DV} {vk : Value} (hv : val e k = some vk) : ∀ {es : List (DV × DV × Nat)} {ms : List MapEntry} (i0 : Nat) {res : Option (DV × Nat)}, ents e es = some ms → findD ks k es = some res →
    match res with
    | none => Instr.findNow kind vk ms i0 = some none
    | some (v, n) => ∃ i rv key, Instr.findNow kind vk ms i0 = some (some (i0 + i, rv)) ∧ val e v = some rv ∧ ms[i]? = some ⟨key, rv, n⟩ ∧ Instr.sameBits 10000 key vk = true ∧
        (∀ v' rv', val e v' = some rv' → ents e (setD ks k v' es) = some (ms.modify i fun m => { m with key := vk, val := rv' })) ∧ ents e (delD ks k es) = some (ms.eraseIdx i)
  | [], ms, i0, res, he, hf => by
    simp [ents] at he
    simp [findD] at hf
    subst he; subst hf
    rfl
  | (k', v', n) :: es, ms, i0, res, he, hf => by
    obtain ⟨rk, rv, ms', rfl, h1, h2, h3⟩ := ents_cons he
    unfold findD at hf
    split at hf
    · next heq =>
      cases hf
      obtain ⟨hs, ht⟩ := same_ok hk hv h1 heq
      obtain ⟨hkk, hbits⟩ := ht rfl
      refine ⟨0, rv, rk, ?_, h2, rfl, hbits, fun v2 rv2 hv2 => ?_, ?_⟩
      · simp [Instr.findNow, hs]
      · simp only [setD, heq, ents, hv, hv2, h3]
        simp
      · simp only [delD, heq, h3]
        simp
    · next heq =>
      obtain ⟨hs, _⟩ := same_ok hk hv h1 heq
      have ih := find_ok hk hv (i0 + 1) h3 hf
      cases res with
      | none => simpa [Instr.findNow, hs] using ih
      | some p =>
        obtain ⟨v, m⟩ := p
        obtain ⟨i, rv2, key, g1, g2, g3, g4, g5, g6⟩ := ih
        refine ⟨i + 1, rv2, key, ?_, g2, by simpa using g3, g4, fun v2 rv3 hv2 => ?_, ?_⟩
        · simp only [Instr.findNow, hs, g1]
          congr 3
          omega
        · simp only [setD, heq, ents, h1, h2, g5 v2 rv3 hv2]
          simp
        · simp only [delD, heq, ents, h1, h2, g6]
          simp
    · cases hf
end Go.Dx
