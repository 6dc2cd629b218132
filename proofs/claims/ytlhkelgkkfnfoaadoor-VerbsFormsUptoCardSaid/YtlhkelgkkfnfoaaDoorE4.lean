/- The reference's Parse answers as the program's does: the plain law. -/
import Derived.Test.YtlhkelgkkfnfoaaDoorE3
namespace Go.Proofs.YtlhkelgkkfnfoaaDoor
open Go.RowKit

/-- the program's letter for the reference's -/
def lm (b : UInt8) : UInt8 := if b = 114 then 116 else if b = 116 then 117 else b
theorem forms_alike : ((List.range 26).all fun k => behindAt k == (refAt k).map lm) = true := by kernel_rfl
theorem behind_is {k : Nat} (h : k < 26) : behindAt k = (refAt k).map lm := eq_of_beq (List.all_eq_true.1 forms_alike k (List.mem_range.2 h))
theorem no_ttr : ((List.range 26).all fun k => k == 1 || (refAt k).all fun b => [112, 100, 110, 105, 116].contains b) = true := by kernel_rfl
theorem setR_is (c : CmdN) (b : UInt8) (x : ByteArray) (hb : b = 112 ∨ b = 100 ∨ b = 110 ∨ b = 105 ∨ b = 116) : setR c b.toNat x = readF c (fieldB (lm b)) x := by
  rcases hb with rfl | rfl | rfl | rfl | rfl
  · simp [setR, readF, fieldB, fieldOf, mostOf, lm]
  · simp [setR, readF, fieldB, fieldOf, mostOf, lm]
  · simp [setR, readF, fieldB, fieldOf, mostOf, lm]
  · simp [setR, readF, fieldB, fieldOf, mostOf, lm]
  · simp [setR, readF, fieldB, fieldOf, lm]
theorem readR_is : ∀ (bs : List UInt8) (ws : List ByteArray) (c : CmdN), (∀ b ∈ bs, b = 112 ∨ b = 100 ∨ b = 110 ∨ b = 105 ∨ b = 116) → readR bs ws c = readAll (bs.map lm) ws c
  | [], _, _, _ => rfl
  | _ :: _, [], _, _ => rfl
  | b :: bs, x :: xs, c, h => by
    rw [List.map_cons, readR, readAll, setR_is c b x (h b (by simp)), readR_is bs xs _ fun y hy => h y (by simp [hy])]
theorem readAll_kind : ∀ (bs : List UInt8) (ws : List ByteArray) (c c' : CmdN), readAll bs ws c = some c' → c'.kind = c.kind
  | [], _, c, c', h => by rw [readAll] at h; cases h; rfl
  | _ :: _, [], _, _, h => by rw [readAll] at h; cases h
  | b :: bs, x :: xs, c, c', h => by
    rw [readAll] at h
    split at h
    · rw [readAll_kind bs xs _ c' h, readF_kind]
    · cases h
theorem put_is (ws : List ByteArray) : readR (refAt 1) ws (kindC 1) = (readAll (behindAt 1) ws (kindC 1)).map ttrOne := by
  show readR [112, 100, 114, 110] ws (kindC 1) = (readAll [112, 100, 116, 110] ws (kindC 1)).map ttrOne
  match ws with
  | [] => rfl
  | [a] => simp [readR, readAll]
  | [a, b] => simp [readR, readAll]
  | [a, b, d] => simp [readR, readAll]
  | a :: b :: d :: e :: r =>
    have e1 : ∀ (c : CmdN) (x : ByteArray), setR c 112 x = ({ c with pri := (parseD x.data.toList 4294967295).1 }, (parseD x.data.toList 4294967295).2) := fun c x => by simp [setR]
    have e2 : ∀ (c : CmdN) (x : ByteArray), setR c 100 x = ({ c with delay := (parseD x.data.toList 4294967295).1 }, (parseD x.data.toList 4294967295).2) := fun c x => by simp [setR]
    have e3 : ∀ (c : CmdN) (x : ByteArray), setR c 114 x = ({ c with ttr := if (parseD x.data.toList 4294967295).1 = 0 then 1 else (parseD x.data.toList 4294967295).1 }, (parseD x.data.toList 4294967295).2) := fun c x => by simp [setR]
    have e4 : ∀ (c : CmdN) (x : ByteArray), setR c 110 x = ({ c with number := (parseD x.data.toList 4294967295).1 }, (parseD x.data.toList 4294967295).2) := fun c x => by simp [setR]
    have d1 : ∀ (c : CmdN) (x : ByteArray), readF c 2 x = ({ c with pri := (parseD x.data.toList 4294967295).1 }, (parseD x.data.toList 4294967295).2) := fun c x => by simp [readF, mostOf]
    have d2 : ∀ (c : CmdN) (x : ByteArray), readF c 3 x = ({ c with delay := (parseD x.data.toList 4294967295).1 }, (parseD x.data.toList 4294967295).2) := fun c x => by simp [readF, mostOf]
    have d3 : ∀ (c : CmdN) (x : ByteArray), readF c 4 x = ({ c with ttr := (parseD x.data.toList 4294967295).1 }, (parseD x.data.toList 4294967295).2) := fun c x => by simp [readF, mostOf]
    have d4 : ∀ (c : CmdN) (x : ByteArray), readF c 5 x = ({ c with number := (parseD x.data.toList 4294967295).1 }, (parseD x.data.toList 4294967295).2) := fun c x => by simp [readF, mostOf]
    have f2 : fieldB 112 = 2 := rfl
    have f3 : fieldB 100 = 3 := rfl
    have f4 : fieldB 116 = 4 := rfl
    have f5 : fieldB 110 = 5 := rfl
    have g1 : (112 : UInt8).toNat = 112 := rfl
    have g2 : (100 : UInt8).toNat = 100 := rfl
    have g3 : (114 : UInt8).toNat = 114 := rfl
    have g4 : (110 : UInt8).toNat = 110 := rfl
    simp only [readR, readAll, f2, f3, f4, f5, g1, g2, g3, g4, e1, e2, e3, e4, d1, d2, d3, d4]
    generalize parseD a.data.toList 4294967295 = pa
    generalize parseD b.data.toList 4294967295 = pb
    generalize parseD d.data.toList 4294967295 = pd
    generalize parseD e.data.toList 4294967295 = pe
    obtain ⟨pa1, pa2⟩ := pa
    obtain ⟨pb1, pb2⟩ := pb
    obtain ⟨pd1, pd2⟩ := pd
    obtain ⟨pe1, pe2⟩ := pe
    cases pa2
    · rfl
    cases pb2
    · rfl
    cases pd2
    · rfl
    cases pe2
    · rfl
    by_cases h : pd1 = 0
    · subst h; rfl
    · simp [kindC, ttrOne, h]
theorem kindB_lt (v : List UInt8) : kindB v < 26 := by
  rw [kindB]
  cases h : (List.range 26).find? _ with
  | none => simp
  | some j => have := List.mem_of_find?_eq_some h; simpa using this
/-- THE TWO ANSWER ALIKE -/
theorem refRes_is (s : ByteArray) : refRes s = parseRes s := by
  rw [refRes, parseRes, cut_is]
  generalize hk : kindB (headP s.data.toList) = k
  have h26 : k < 26 := by rw [← hk]; exact kindB_lt _
  have hl : (behindAt k).length = (refAt k).length := by rw [behind_is h26]; simp
  simp only [hl]
  by_cases h0 : k = 0
  · rw [if_pos h0, if_pos h0]
  · rw [if_neg h0, if_neg h0]
    split
    · rfl
    · by_cases h1 : k = 1
      · subst h1
        rw [put_is]
        cases readAll (behindAt 1) (List.drop 1 (wordsOf s)) (kindC 1) <;> rfl
      · have hb : ∀ b ∈ refAt k, b = 112 ∨ b = 100 ∨ b = 110 ∨ b = 105 ∨ b = 116 := fun b hb => by
          have h2 := List.all_eq_true.1 no_ttr k (List.mem_range.2 h26)
          simp only [Bool.or_eq_true, beq_iff_eq, h1, false_or] at h2
          have h3 := List.all_eq_true.1 h2 b hb
          simpa using h3
        rw [readR_is _ _ _ hb, ← behind_is h26]
        cases hr : readAll (behindAt k) (List.drop 1 (wordsOf s)) (kindC k) with
        | none => rfl
        | some c =>
          have hkc := readAll_kind _ _ _ _ hr
          have : ttrOne c = c := by
            rw [ttrOne, if_neg]
            rintro ⟨h, _⟩
            rw [hkc] at h
            have : (kindC k).kind = (k : Int) := rfl
            omega
          simp only [this]
end Go.Proofs.YtlhkelgkkfnfoaaDoor
