/- What the small functions of digits, names and verbs compute: plain functions on lists of bytes and numbers, no program in sight. -/
import Derived.Lib.Bytealg
import Derived.Lib.ItoaNum
namespace Go.Proofs.YtlhkelgkkfnfoaaDoor
open Go

/-- the nine other signs of a name -/
def others : List UInt8 := [45, 43, 47, 59, 46, 36, 95, 40, 41]
/-- may a byte stand in a name? -/
def mayB (c : Int) : Bool := decide (97 ≤ c ∧ c ≤ 122) || decide (65 ≤ c ∧ c ≤ 90) || decide (48 ≤ c ∧ c ≤ 57) || decide (0 ≤ Lib.indexByte others c.toNat.toUInt8)
/-- a tube's name -/
def validB (l : List UInt8) : Bool := decide (1 ≤ l.length) && decide (l.length ≤ 200) && !(l.head? == some 45) && l.all (fun b => mayB b.toNat)
/-- may a byte stand in a word? -/
def wordy (b : UInt8) : Bool := decide (33 ≤ b.toNat) && decide (b.toNat ≤ 126)
/-- a word -/
def wordB (l : List UInt8) : Bool := l.all wordy && !l.isEmpty
/-- a number's digits, read on -/
def parseGo (most : Int) : List UInt8 → Int → Int × Bool
  | [], n => (n, true)
  | b :: t, n =>
    if b.toNat < 48 ∨ 57 < b.toNat then (0, false)
    else if n > most / 10 ∨ n * 10 > most - ((b.toNat : Int) - 48) then (0, false)
    else parseGo most t (n * 10 + ((b.toNat : Int) - 48))
/-- a number, at most so great -/
def parseD (l : List UInt8) (most : Int) : Int × Bool := if l = [] then (0, false) else parseGo most l 0
/-- a number, written -/
def printD (n : Int) : List UInt8 := if n < 0 then [] else Lib.itoa n
/-- the verbs and what stands behind each, a letter a field, by kinds -/
def formTab : List (List UInt8 × List UInt8) :=
  [([], []),
   ([112, 117, 116], [112, 100, 116, 110]),
   ([117, 115, 101], [117]),
   ([114, 101, 115, 101, 114, 118, 101], []),
   ([114, 101, 115, 101, 114, 118, 101, 45, 119, 105, 116, 104, 45, 116, 105, 109, 101, 111, 117, 116], [110]),
   ([114, 101, 115, 101, 114, 118, 101, 45, 106, 111, 98], [105]),
   ([100, 101, 108, 101, 116, 101], [105]),
   ([114, 101, 108, 101, 97, 115, 101], [105, 112, 100]),
   ([98, 117, 114, 121], [105, 112]),
   ([116, 111, 117, 99, 104], [105]),
   ([119, 97, 116, 99, 104], [117]),
   ([105, 103, 110, 111, 114, 101], [117]),
   ([112, 101, 101, 107], [105]),
   ([112, 101, 101, 107, 45, 114, 101, 97, 100, 121], []),
   ([112, 101, 101, 107, 45, 100, 101, 108, 97, 121, 101, 100], []),
   ([112, 101, 101, 107, 45, 98, 117, 114, 105, 101, 100], []),
   ([107, 105, 99, 107], [110]),
   ([107, 105, 99, 107, 45, 106, 111, 98], [105]),
   ([115, 116, 97, 116, 115, 45, 106, 111, 98], [105]),
   ([115, 116, 97, 116, 115, 45, 116, 117, 98, 101], [117]),
   ([115, 116, 97, 116, 115], []),
   ([108, 105, 115, 116, 45, 116, 117, 98, 101, 115], []),
   ([108, 105, 115, 116, 45, 116, 117, 98, 101, 45, 117, 115, 101, 100], []),
   ([108, 105, 115, 116, 45, 116, 117, 98, 101, 115, 45, 119, 97, 116, 99, 104, 101, 100], []),
   ([112, 97, 117, 115, 101, 45, 116, 117, 98, 101], [117, 110]),
   ([113, 117, 105, 116], [])]
def verbAt (k : Nat) : List UInt8 := (formTab.getD k ([], [])).1
def behindAt (k : Nat) : List UInt8 := (formTab.getD k ([], [])).2
/-- which field a letter stands for -/
def fieldOf (r : Int) : Int := if r = 105 then 1 else if r = 112 then 2 else if r = 100 then 3 else if r = 116 then 4 else if r = 110 then 5 else 6
/-- the greatest number that a field may have -/
def mostOf (f : Int) : Int := if f = 1 then 4611686018427387903 else 4294967295

theorem take_snoc (s : ByteArray) (k : Nat) (h : k < s.size) : s.data.toList.take (k + 1) = s.data.toList.take k ++ [s[k]] := by
  rw [List.take_succ_eq_append_getElem (by simpa using h)]; rfl
theorem drop_cons (s : ByteArray) (k : Nat) (h : k < s.size) : s.data.toList.drop k = s[k] :: s.data.toList.drop (k + 1) := by
  rw [List.drop_eq_getElem_cons (by simpa using h)]; rfl
theorem all_mem (s : ByteArray) (k : Nat) (h : k < s.size) (p : UInt8 → Bool) (hp : p s[k] = false) : s.data.toList.all p = false := by
  rw [List.all_eq_false]
  refine ⟨s[k], ?_, by simp [hp]⟩
  have : s[k] = s.data.toList[k]'(by simpa using h) := rfl
  rw [this]
  exact List.getElem_mem _
theorem mem_at (s : ByteArray) (k : Nat) (h : k < s.size) : s[k] ∈ s.data.toList := by
  have : s[k] = s.data.toList[k]'(by simpa using h) := rfl
  rw [this]
  exact List.getElem_mem _
theorem any_at (s : ByteArray) (k : Nat) (h : k < s.size) (p : UInt8 → Bool) (hp : p s[k] = true) : s.data.toList.any p = true := List.any_eq_true.2 ⟨_, mem_at s k h, hp⟩
theorem any_step (s : ByteArray) (k : Nat) (h : k < s.size) (p : UInt8 → Bool) (ha : (s.data.toList.take k).any p = false) (hp : p s[k] = false) : (s.data.toList.take (k + 1)).any p = false := by
  rw [take_snoc s k h, List.any_append, ha]; simp [hp]
theorem all_step (s : ByteArray) (k : Nat) (h : k < s.size) (p : UInt8 → Bool) (ha : (s.data.toList.take k).all p = true) (hp : p s[k] = true) : (s.data.toList.take (k + 1)).all p = true := by
  rw [take_snoc s k h, List.all_append, ha]; simp [hp]
theorem head_at (s : ByteArray) (h : 0 < s.size) : s.data.toList.head? = some s[0] := by
  have := drop_cons s 0 h
  rw [List.drop_zero] at this
  rw [this]; rfl
theorem take_all (s : ByteArray) (k : Nat) (h : ¬ k < s.size) : s.data.toList.take k = s.data.toList := List.take_of_length_le (by simp; omega)
theorem valid_short (s : ByteArray) (h : s.size < 1 ∨ 200 < s.size) : validB s.data.toList = false := by
  unfold validB
  have e : s.data.toList.length = s.size := by simp
  rw [e]
  rcases h with h | h
  · rw [decide_eq_false (show ¬ 1 ≤ s.size by omega)]; rfl
  · rw [decide_eq_false (show ¬ s.size ≤ 200 by omega)]; simp
theorem valid_minus (s : ByteArray) (h : 0 < s.size) (h2 : s[0].toNat = 45) : validB s.data.toList = false := by
  unfold validB
  have e : s[0] = 45 := UInt8.toNat_inj.1 h2
  rw [head_at s h, e]; simp
theorem valid_no (s : ByteArray) (k : Nat) (h : k < s.size) (hp : mayB s[k].toNat = false) : validB s.data.toList = false := by
  unfold validB
  rw [all_mem s k h (fun b => mayB b.toNat) hp]; simp
theorem valid_yes (s : ByteArray) (h1 : 1 ≤ s.size) (h2 : s.size ≤ 200) (h3 : ¬ s[0].toNat = 45) (hp : s.data.toList.all (fun b => mayB b.toNat) = true) : validB s.data.toList = true := by
  unfold validB
  have e : s.data.toList.length = s.size := by simp
  rw [e, hp, head_at s h1, decide_eq_true h1, decide_eq_true h2]
  have : ¬ s[0] = 45 := fun e => h3 (by rw [e]; rfl)
  simp [this]
theorem word_low (s : ByteArray) (k : Nat) (h : k < s.size) (hb : s[k].toNat < 33 ∨ 126 < s[k].toNat) : wordB s.data.toList = false := by
  unfold wordB
  rw [all_mem s k h wordy (by unfold wordy; simp; omega)]; rfl
theorem word_step (s : ByteArray) (k : Nat) (h : k < s.size) (hall : (s.data.toList.take k).all wordy = true) (h1 : 33 ≤ s[k].toNat) (h2 : s[k].toNat ≤ 126) :
    (s.data.toList.take (k + 1)).all wordy = true := by
  rw [take_snoc s k h, List.all_append, hall]; simp [wordy, h1, h2]
theorem word_end (s : ByteArray) (k : Nat) (h : ¬ k < s.size) (hall : (s.data.toList.take k).all wordy = true) : wordB s.data.toList = !s.data.toList.isEmpty := by
  rw [take_all s k h] at hall
  unfold wordB; rw [hall]; rfl
theorem parse_bad (most : Int) (s : ByteArray) (k : Nat) (n : Int) (h : k < s.size) (hb : s[k].toNat < 48 ∨ 57 < s[k].toNat) : parseGo most (s.data.toList.drop k) n = (0, false) := by
  rw [drop_cons s k h, parseGo, if_pos hb]
theorem parse_big (most : Int) (s : ByteArray) (k : Nat) (n : Int) (h : k < s.size) (h1 : 48 ≤ s[k].toNat) (h2 : s[k].toNat ≤ 57) (hb : n > most / 10 ∨ n * 10 > most - ((s[k].toNat : Int) - 48)) :
    parseGo most (s.data.toList.drop k) n = (0, false) := by
  rw [drop_cons s k h, parseGo, if_neg (by omega), if_pos hb]
theorem parse_step (most : Int) (s : ByteArray) (k : Nat) (n : Int) (h : k < s.size) (h1 : 48 ≤ s[k].toNat) (h2 : s[k].toNat ≤ 57) (ha : n ≤ most / 10) (hb : n * 10 ≤ most - ((s[k].toNat : Int) - 48)) :
    parseGo most (s.data.toList.drop (k + 1)) (n * 10 + ((s[k].toNat : Int) - 48)) = parseGo most (s.data.toList.drop k) n := by
  rw [drop_cons s k h, parseGo, if_neg (by omega), if_neg (by omega)]
theorem parse_end (most : Int) (s : ByteArray) (k : Nat) (n : Int) (h : ¬ k < s.size) : parseGo most (s.data.toList.drop k) n = (n, true) := by
  rw [List.drop_eq_nil_of_le (by simp; omega), parseGo]
end Go.Proofs.YtlhkelgkkfnfoaaDoor
