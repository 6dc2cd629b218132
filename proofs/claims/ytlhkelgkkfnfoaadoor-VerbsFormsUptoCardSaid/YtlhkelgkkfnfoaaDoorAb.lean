/- verbs.Parse, Name and Print, each by one contract. -/
import Derived.Test.YtlhkelgkkfnfoaaDoorAa
namespace Go.Proofs.YtlhkelgkkfnfoaaDoor
open Go.RowKit

theorem parse_any (s : ByteArray) (w : World) (hg : Good w) (hs : s.size < 4294967281) :
    Calls Tryd.prog 13 #[.string s] w fun e w' => e = .returned (.tuple #[.agg ((parseRes s).1.cells (.slice none 0 0)), .int .i64 (parseRes s).2]) ∧ Below w.heap.size w w' := by
  by_cases hk : kindB (Lib.cut s.data.toList [32]).1 = 0
  · have e : parseRes s = (zeroC, 70) := by rw [parseRes]; simp only [hk]; rfl
    rw [e]
    exact parse_unknown s w hg hs hk
  · by_cases hw : allWords (wordsOf s) = true
    · obtain ⟨kk, hkk⟩ : ∃ kk, kk = kindB (Lib.cut s.data.toList [32]).1 := ⟨_, rfl⟩
      have h26 : kk < 26 := by
        rw [hkk, kindB]
        cases h : (List.range 26).find? _ with
        | none => simp
        | some j => have := List.mem_of_find?_eq_some h; simpa using this
      by_cases hc : (wordsOf s).length = 1 + (behindAt kk).length
      · have e : parseRes s = parsed kk (wordsOf s) := by
          rw [parseRes]
          simp only [← hkk]
          rw [if_neg (by rw [hkk]; exact hk), if_neg (by simp [hw, hc])]
          rfl
        rw [e]
        exact parse_fields s kk w hg hs hkk.symm (by omega) h26 hw hc
      · have e : parseRes s = (zeroC, 71) := by
          rw [parseRes]
          simp only [← hkk]
          rw [if_neg (by rw [hkk]; exact hk), if_pos (by simp [hw]; omega)]
        rw [e]
        exact parse_count s kk w hg hs hkk.symm (by omega) h26 hw hc
    · have hw' : allWords (wordsOf s) = false := by simpa using hw
      have e : parseRes s = (zeroC, 71) := by
        rw [parseRes, if_neg hk, if_pos (by simp [hw'])]
      rw [e]
      exact parse_words s w hg hs hk hw'

/-- the verb of a kind -/
def nameB (k : Int) : List UInt8 := if 1 ≤ k ∧ k ≤ 25 then verbAt k.toNat else []
theorem name_any (k : Int) (w : World) : Calls Tryd.prog 11 #[.int .i64 k] w fun e w' => e = .returned (.string ⟨(nameB k).toArray⟩) ∧ Below w.heap.size w w' := by
  by_cases h : 1 ≤ k ∧ k ≤ 25
  · have e : nameB k = verbAt k.toNat := by rw [nameB, if_pos h]
    rw [e]
    have := name_yes k.toNat w (by omega) (by omega)
    rwa [show ((k.toNat : Nat) : Int) = k by omega] at this
  · have e : nameB k = [] := by rw [nameB, if_neg h]
    rw [e]
    exact name_no k w (by omega)
end Go.Proofs.YtlhkelgkkfnfoaaDoor
