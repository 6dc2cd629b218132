/- A command's words are words; verbs.Print by one contract. -/
import Derived.Test.YtlhkelgkkfnfoaaDoorAb
import Derived.Lib.Join
namespace Go.Proofs.YtlhkelgkkfnfoaaDoor
open Go.RowKit

theorem wordB_of {l : List UInt8} (h : ∀ b ∈ l, wordy b = true) (hn : l ≠ []) : wordB l = true := by
  rw [wordB, List.all_eq_true.2 h]
  cases l with
  | nil => exact absurd rfl hn
  | cons b t => rfl
theorem digit_wordy (n : Nat) (h : n < 10) : wordy (UInt8.ofNat (48 + n)) = true := by
  have : n = 0 ∨ n = 1 ∨ n = 2 ∨ n = 3 ∨ n = 4 ∨ n = 5 ∨ n = 6 ∨ n = 7 ∨ n = 8 ∨ n = 9 := by omega
  rcases this with rfl | rfl | rfl | rfl | rfl | rfl | rfl | rfl | rfl | rfl <;> rfl
theorem dec_wordy (u : Nat) : ∀ b ∈ Lib.decDigits u, wordy b = true := by
  induction u using Nat.strongRecOn with
  | _ u ih =>
    intro b hb
    rw [Lib.decDigits] at hb
    split at hb
    · next h =>
      rw [List.mem_singleton.1 hb]; exact digit_wordy u h
    · next h =>
      rcases List.mem_append.1 hb with hb | hb
      · exact ih (u / 10) (by omega) b hb
      · rw [List.mem_singleton.1 hb]; exact digit_wordy (u % 10) (by omega)
theorem dec_ne (u : Nat) : Lib.decDigits u ≠ [] := by
  rw [Lib.decDigits]; split <;> simp
theorem printD_nat (n : Int) (h : 0 ≤ n) : printD n = Lib.decDigits n.toNat := by
  rw [printD, if_neg (by omega), Lib.itoa, if_neg (by omega)]
theorem printD_word (n : Int) (h : 0 ≤ n) : wordB (printD n) = true := by
  rw [printD_nat n h]; exact wordB_of (dec_wordy _) (dec_ne _)
theorem dec_len (k : Nat) : ∀ u : Nat, u < 10 ^ (k + 1) → (Lib.decDigits u).length ≤ k + 1 := by
  induction k with
  | zero => intro u h; rw [Lib.decDigits, dif_pos (by simpa using h)]; simp
  | succ k ih =>
    intro u h
    rw [Lib.decDigits]
    split
    · simp
    · rw [List.length_append]
      have := ih (u / 10) (by rw [Nat.pow_succ] at h; omega)
      simp; omega
theorem printD_len (n : Int) (h : n ≤ 9223372036854775807) : (printD n).length ≤ 20 := by
  by_cases h0 : 0 ≤ n
  · rw [printD_nat n h0]
    have := dec_len 18 n.toNat (by omega)
    omega
  · rw [printD, if_pos (by omega)]; simp
theorem name_wordy : ((List.range 256).all fun b => !(mayB b) || wordy (UInt8.ofNat b)) = true := by kernel_rfl
theorem may_wordy (b : UInt8) (h : mayB b.toNat = true) : wordy b = true := by
  have h1 := List.all_eq_true.1 name_wordy b.toNat (List.mem_range.2 b.toNat_lt)
  rw [h] at h1
  simpa using h1
theorem valid_word (l : List UInt8) (h : validB l = true) : wordB l = true := by
  simp only [validB, Bool.and_eq_true, decide_eq_true_eq] at h
  obtain ⟨⟨⟨h1, -⟩, -⟩, h4⟩ := h
  exact wordB_of (fun b hb => may_wordy b (List.all_eq_true.1 h4 b hb)) (fun e => by rw [e] at h1; simp at h1)
theorem valid_len (l : List UInt8) (h : validB l = true) : l.length ≤ 200 := by
  simp only [validB, Bool.and_eq_true, decide_eq_true_eq] at h
  exact h.1.1.2
theorem verb_words : ((List.range 26).all fun k => k == 0 || (wordB (verbAt k) && decide ((verbAt k).length ≤ 20))) = true := by kernel_rfl
theorem verb_word {k : Nat} (h1 : 1 ≤ k) (h2 : k < 26) : wordB (verbAt k) = true ∧ (verbAt k).length ≤ 20 := by
  have h := List.all_eq_true.1 verb_words k (List.mem_range.2 h2)
  simp [show k ≠ 0 by omega] at h
  exact h
/-- each field's word is a word, and short -/
theorem field_word {k : Nat} {c : CmdN} (hk : k < 26) (hr : rightK k c = true) {b : UInt8} (hb : b ∈ behindAt k) : wordB (wordL c b).data.toList = true ∧ (wordL c b).data.toList.length ≤ 200 := by
  rcases behind_letter hk hb with rfl | rfl | rfl | rfl | rfl | rfl
  · rw [wordL_105]; have := field_105 hr hb; exact ⟨by simpa using printD_word _ this.1, by have := printD_len _ this.2; simp; omega⟩
  · rw [wordL_112]; have := field_112 hr hb; exact ⟨by simpa using printD_word _ this.1, by have := printD_len _ this.2; simp; omega⟩
  · rw [wordL_100]; have := field_100 hr hb; exact ⟨by simpa using printD_word _ this.1, by have := printD_len _ this.2; simp; omega⟩
  · rw [wordL_116]; have := field_116 hr hb; exact ⟨by simpa using printD_word _ this.1, by have := printD_len _ this.2; simp; omega⟩
  · rw [wordL_110]; have := field_110 hr hb; exact ⟨by simpa using printD_word _ this.1, by have := printD_len _ this.2; simp; omega⟩
  · rw [wordL_117]
    have h : tubeOk (hasL k 117) c.tube.data.toList = true := right_at hr (j := 5) (by omega)
    rw [show hasL k 117 = true from hasL_of hb] at h
    have hv : validB c.tube.data.toList = true := by simpa [tubeOk] using h
    exact ⟨valid_word _ hv, valid_len _ hv⟩
theorem wordsL_words {k : Nat} {c : CmdN} (h1 : 1 ≤ k) (hk : k < 26) (hr : rightK k c = true) : allWords (wordsL k c) = true := by
  rw [allWords, List.all_eq_true]
  intro x hx
  rw [wordsL] at hx
  rcases List.mem_cons.1 hx with rfl | hx
  · exact (verb_word h1 hk).1
  · obtain ⟨b, hb, rfl⟩ := List.mem_map.1 hx
    exact (field_word hk hr hb).1
theorem lens_le (l : List (List UInt8)) (m : Nat) (h : ∀ x ∈ l, x.length ≤ m) : Lib.lens l ≤ m * l.length := by
  induction l with
  | nil => simp [Lib.lens]
  | cons x r ih =>
    have h1 := h x (List.mem_cons_self ..)
    have h2 := ih (fun y hy => h y (List.mem_cons_of_mem _ hy))
    have e : Lib.lens (x :: r) = x.length + Lib.lens r := by simp [Lib.lens]
    rw [e, List.length_cons, Nat.mul_succ]
    omega
theorem lineL_short {k : Nat} {c : CmdN} (h1 : 1 ≤ k) (hk : k < 26) (hr : rightK k c = true) : (lineL k c).length ≤ 140737488355328 := by
  rw [lineL, wordsL, List.map_cons, Lib.join_length]
  have hb := behind_len hk
  have := lens_le (((⟨(verbAt k).toArray⟩ : ByteArray).data.toList) :: ((behindAt k).map (wordL c)).map fun x => x.data.toList) 200 (by
    intro x hx
    rcases List.mem_cons.1 hx with rfl | hx
    · have := (verb_word h1 hk).2; simp; omega
    · obtain ⟨y, hy, rfl⟩ := List.mem_map.1 hx
      obtain ⟨b, hb, rfl⟩ := List.mem_map.1 hy
      exact (field_word hk hr hb).2)
  simp only [List.length_cons, List.length_map] at this ⊢
  simp at this ⊢
  omega

/-- what Print answers -/
def printRes (c : CmdN) (n : Nat) : List UInt8 × Int := if rightB c && ((c.kind == 1) || n == 0) then (lineL c.kind.toNat c, 0) else ([], 72)
theorem print_any (c : CmdN) (a : Option Addr) (n m : Nat) (w : World) (hg : Good w) (ht : c.tube.size ≤ 9223372036854775807) :
    Calls Tryd.prog 17 #[.agg (c.cells (.slice a n m))] w fun e w' => e = .returned (.tuple #[.string ⟨(printRes c n).1.toArray⟩, .int .i64 (printRes c n).2]) ∧ Below w.heap.size w w' := by
  by_cases h : (rightB c && ((c.kind == 1) || n == 0)) = true
  · have e : printRes c n = (lineL c.kind.toNat c, 0) := by rw [printRes, if_pos h]
    rw [e]
    rw [Bool.and_eq_true, rightB, Bool.and_eq_true, decide_eq_true_eq] at h
    obtain ⟨⟨hk, hr⟩, hn⟩ := h
    refine print_yes c.kind.toNat c a n m w (by omega) (by omega) (by omega) hg ht hr ?_ (wordsL_words (by omega) (by omega) hr) (lineL_short (by omega) (by omega) hr)
    rw [Bool.or_eq_true] at hn
    rcases hn with hn | hn
    · have : c.kind = 1 := by simpa using hn
      rw [this]; rfl
    · have : n = 0 := by simpa using hn
      rw [this]; simp
  · have h' : (rightB c && ((c.kind == 1) || n == 0)) = false := by simpa using h
    have e : printRes c n = ([], 72) := by rw [printRes, h']; rfl
    rw [e]
    exact print_no c a n m w ht h'
end Go.Proofs.YtlhkelgkkfnfoaaDoor
