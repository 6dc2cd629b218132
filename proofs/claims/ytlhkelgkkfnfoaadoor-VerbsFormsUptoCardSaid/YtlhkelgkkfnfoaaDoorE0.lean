/- The pieces of a line, by a plain recursion; no program in sight. -/
import Derived.Test.YtlhkelgkkfnfoaaDoorA3
import Derived.Lib.CountLaws
import Derived.Lib.IndexBytes
import Derived.Lib.IndexMore
namespace Go.Proofs.YtlhkelgkkfnfoaaDoor
open Go.RowKit

/-- the pieces between the blanks -/
def pieces : List UInt8 → List (List UInt8)
  | [] => [[]]
  | b :: t => if b = 32 then [] :: pieces t else match pieces t with
    | p :: ps => (b :: p) :: ps
    | [] => [[b]]
theorem pieces_ne : ∀ l, pieces l ≠ []
  | [] => by simp [pieces]
  | b :: t => by
    rw [pieces]
    split
    · simp
    · split <;> simp
theorem pieces_none : ∀ {l : List UInt8}, (∀ b ∈ l, b ≠ 32) → pieces l = [l]
  | [], _ => rfl
  | b :: t, h => by rw [pieces, if_neg (h b (by simp)), pieces_none (fun x hx => h x (by simp [hx]))]
theorem pieces_space : ∀ {l r : List UInt8}, (∀ b ∈ l, b ≠ 32) → pieces (l ++ 32 :: r) = l :: pieces r
  | [], r, _ => by rw [List.nil_append, pieces, if_pos rfl]
  | b :: t, r, h => by
    rw [List.cons_append, pieces, if_neg (h b (by simp)), pieces_space (fun x hx => h x (by simp [hx]))]

theorem indexB_one (s : ByteArray) : Lib.indexB s ⟨#[32]⟩ = Lib.indexByte s.data.toList 32 := Lib.index_one s.data.toList 32
theorem none_of_index {l : List UInt8} (h : Lib.indexByte l 32 = -1) : ∀ b ∈ l, b ≠ 32 := by
  intro b hb e
  obtain ⟨k, hk⟩ := List.getElem?_of_mem hb
  exact Lib.indexByte_none h k (by rw [hk, e])
theorem split_of_index {l : List UInt8} {i : Nat} (h : Lib.indexByte l 32 = i) : l = l.take i ++ 32 :: l.drop (i + 1) ∧ ∀ b ∈ l.take i, b ≠ 32 := by
  obtain ⟨h1, h2⟩ := Lib.indexByte_some h
  have hlt := (List.getElem?_eq_some_iff.1 h1).1
  have he : l[i] = 32 := (List.getElem?_eq_some_iff.1 h1).2
  refine ⟨?_, ?_⟩
  · have := List.drop_eq_getElem_cons hlt
    rw [he] at this
    rw [← this, List.take_append_drop]
  · intro b hb e
    obtain ⟨k, hk⟩ := List.getElem?_of_mem hb
    have hkl : k < i := by have := (List.getElem?_eq_some_iff.1 hk).1; simp at this; omega
    rw [List.getElem?_take_of_lt hkl] at hk
    exact h2 k hkl (by rw [hk, e])

theorem wordsOf_miss (s : ByteArray) (h : Lib.indexB s ⟨#[32]⟩ = -1) : wordsOf s = [s] := by
  rw [wordsOf, Lib.countB_miss s _ h, Lib.splitB_zero]
theorem wordsOf_hit (s : ByteArray) (i : Nat) (h : Lib.indexB s ⟨#[32]⟩ = i) : wordsOf s = s.extract 0 i :: wordsOf (s.extract (i + 1) s.size) := by
  rw [wordsOf, Lib.countB_hit s _ i (by decide) h, Nat.add_comm 1, Lib.splitB_hit _ _ _ _ i h]
  rfl
theorem extract_take (s : ByteArray) (k : Nat) : (s.extract 0 k).data.toList = s.data.toList.take k := by
  simp [ByteArray.data_extract]
theorem extract_drop' (s : ByteArray) (k : Nat) : (s.extract k s.size).data.toList = s.data.toList.drop k := by
  rw [ByteArray.data_extract, Array.toList_extract, List.extract_eq_take_drop, List.take_of_length_le]
  simp
/-- THE WORDS ARE THE PIECES -/
theorem wordsOf_pieces : ∀ (n : Nat) (s : ByteArray), s.size ≤ n → (wordsOf s).map (fun x => x.data.toList) = pieces s.data.toList
  | n, s, hn => by
    rcases Lib.indexB_cases s ⟨#[32]⟩ with h | ⟨i, h, hi⟩
    · rw [wordsOf_miss s h, pieces_none (none_of_index (by rw [← indexB_one]; exact h))]
      rfl
    · have hi' : i + 1 ≤ s.size := hi
      obtain ⟨e, hno⟩ := split_of_index (l := s.data.toList) (i := i) (by rw [← indexB_one]; exact h)
      cases n with
      | zero => omega
      | succ n =>
        rw [wordsOf_hit s i h, List.map_cons, wordsOf_pieces n _ (by simp [ByteArray.size_extract]; omega), extract_take, extract_drop']
        conv => rhs; rw [e]
        rw [pieces_space hno]
/-- the verb -/
theorem cut_head (l : List UInt8) : some (Lib.cut l [32]).1 = (pieces l).head? := by
  rw [Lib.cut, Lib.index_one]
  by_cases h : 0 ≤ Lib.indexByte l 32
  · obtain ⟨i, hi⟩ := Int.eq_ofNat_of_zero_le h
    obtain ⟨e, hno⟩ := split_of_index hi
    rw [if_pos h, hi]
    have : pieces l = pieces (l.take i ++ 32 :: l.drop (i + 1)) := by rw [← e]
    rw [this, pieces_space hno]
    rfl
  · have : Lib.indexByte l 32 = -1 := by have := Lib.indexByte_ge l 32; omega
    rw [if_neg h, pieces_none (none_of_index this)]
    rfl
theorem words_inj {a b : List ByteArray} (h : a.map (fun x => x.data.toList) = b.map (fun x => x.data.toList)) : a = b := by
  induction a generalizing b with
  | nil => cases b <;> simp_all
  | cons x t ih =>
    cases b with
    | nil => simp at h
    | cons y u =>
      simp only [List.map_cons, List.cons.injEq] at h
      rw [ih h.2]
      congr 1
      obtain ⟨⟨dx⟩⟩ := x
      obtain ⟨⟨dy⟩⟩ := y
      simpa using h.1
/-- words by their bytes -/
def bytesOf (l : List (List UInt8)) : List ByteArray := l.map fun x => ⟨x.toArray⟩
theorem wordsOf_is (s : ByteArray) : wordsOf s = bytesOf (pieces s.data.toList) := by
  apply words_inj
  rw [wordsOf_pieces _ s (Nat.le_refl _), bytesOf, List.map_map]
  conv => lhs; rw [← List.map_id (pieces s.data.toList)]
  rfl
/-- allWords, by lists -/
def allW (l : List (List UInt8)) : Bool := l.all wordB
theorem allWords_is (s : ByteArray) : allWords (wordsOf s) = allW (pieces s.data.toList) := by
  rw [wordsOf_is, allWords, allW, bytesOf, List.all_map]
  rfl
end Go.Proofs.YtlhkelgkkfnfoaaDoor
