/- WHAT IS WRITTEN IS READ BACK: the plain law. -/
import Derived.Test.YtlhkelgkkfnfoaaDoorE5
import Derived.Test.YtlhkelgkkfnfoaaDoorAc
namespace Go.Proofs.YtlhkelgkkfnfoaaDoor
open Go.RowKit

theorem byte_nat {n : Nat} (h : n < 208) : (UInt8.ofNat (48 + n)).toNat = 48 + n := by
  rw [UInt8.toNat_ofNat']; omega
/-- a numeral, read -/
theorem parse_dec (most : Int) : ∀ (u : Nat) (r : List UInt8), (u : Int) ≤ most → parseGo most (Lib.decDigits u ++ r) 0 = parseGo most r u := by
  intro u
  induction u using Nat.strongRecOn with
  | _ u ih =>
    intro r hm
    rw [Lib.decDigits]
    split
    · next h =>
      rw [List.singleton_append, parseGo, byte_nat (by omega), if_neg (by omega), if_neg (by omega)]
      congr 1; omega
    · next h =>
      rw [List.append_assoc, ih (u / 10) (by omega) _ (by omega), List.singleton_append, parseGo, byte_nat (by omega), if_neg (by omega), if_neg (by omega)]
      congr 1; omega
theorem parse_print {n most : Int} (h0 : 0 ≤ n) (h1 : n ≤ most) : parseD (printD n) most = (n, true) := by
  rw [printD_nat n h0, parseD, if_neg (dec_ne _)]
  have := parse_dec most n.toNat [] (by omega)
  rw [List.append_nil] at this
  rw [this, parseGo]
  congr 1; omega

/-- the pieces of words that were joined -/
theorem pieces_join : ∀ (r : List (List UInt8)) (x : List UInt8), (∀ y ∈ x :: r, ∀ b ∈ y, b ≠ 32) → pieces (x ++ Lib.joinTail [32] r) = x :: r
  | [], x, h => by
    rw [show Lib.joinTail [32] [] = [] from rfl, List.append_nil, pieces_none (h x (by simp))]
  | y :: r, x, h => by
    have e : Lib.joinTail [32] (y :: r) = 32 :: (y ++ Lib.joinTail [32] r) := rfl
    rw [e, pieces_space (h x (by simp)), pieces_join r y fun z hz => h z (by simp at hz ⊢; exact .inr hz)]
theorem wordy_no {b : UInt8} (h : wordy b = true) : b ≠ 32 := fun e => by rw [e] at h; cases h
theorem word_no {l : List UInt8} (h : wordB l = true) : ∀ b ∈ l, b ≠ 32 := fun b hb => by
  rw [wordB, Bool.and_eq_true] at h
  exact wordy_no (List.all_eq_true.1 h.1 b hb)
theorem line_pieces {k : Nat} {c : CmdN} (h1 : 1 ≤ k) (hk : k < 26) (hr : rightK k c = true) : pieces (lineL k c) = (wordsL k c).map fun x => x.data.toList := by
  have hw := wordsL_words h1 hk hr
  rw [lineL, wordsL, List.map_cons, Lib.join_cons]
  rw [allWords, wordsL, List.all_cons, Bool.and_eq_true, List.all_eq_true] at hw
  refine pieces_join _ _ fun y hy => ?_
  rcases List.mem_cons.1 hy with rfl | hy
  · exact word_no hw.1
  · obtain ⟨x, hx, rfl⟩ := List.mem_map.1 hy
    exact word_no (hw.2 x hx)
theorem line_words {k : Nat} {c : CmdN} (h1 : 1 ≤ k) (hk : k < 26) (hr : rightK k c = true) : wordsOf ⟨(lineL k c).toArray⟩ = wordsL k c := by
  apply words_inj
  rw [wordsOf_pieces _ _ (Nat.le_refl _)]
  exact line_pieces h1 hk hr
theorem line_head {k : Nat} {c : CmdN} (h1 : 1 ≤ k) (hk : k < 26) (hr : rightK k c = true) : headP (lineL k c) = verbAt k := by
  rw [headP, line_pieces h1 hk hr]; rfl
theorem kind_verb {k : Nat} (h1 : 1 ≤ k) (hk : k < 26) : kindB (verbAt k) = k := by
  have h := List.all_eq_true.1 kind_self k (List.mem_range.2 hk)
  simp only [Bool.or_eq_true, beq_iff_eq] at h
  omega

/-- which forms there are -/
theorem form_in : ((List.range 26).all fun k => [[], [112, 100, 116, 110], [117], [110], [105], [105, 112, 100], [105, 112], [117, 110]].contains (behindAt k)) = true := by kernel_rfl
theorem form_cases {k : Nat} (h : k < 26) : behindAt k = [] ∨ behindAt k = [112, 100, 116, 110] ∨ behindAt k = [117] ∨ behindAt k = [110] ∨ behindAt k = [105] ∨ behindAt k = [105, 112, 100] ∨ behindAt k = [105, 112] ∨ behindAt k = [117, 110] := by
  have h1 := List.all_eq_true.1 form_in k (List.mem_range.2 h)
  simpa using h1

theorem readF_1 (c : CmdN) {n : Int} (h0 : 0 ≤ n) (h1 : n ≤ mostOf 1) : readF c 1 ⟨(printD n).toArray⟩ = ({ c with id := n }, true) := by
  rw [readF, if_neg (by decide)]
  simp only [parse_print h0 h1]
  simp
theorem readF_2 (c : CmdN) {n : Int} (h0 : 0 ≤ n) (h1 : n ≤ mostOf 2) : readF c 2 ⟨(printD n).toArray⟩ = ({ c with pri := n }, true) := by
  rw [readF, if_neg (by decide)]
  simp only [parse_print h0 h1]
  simp
theorem readF_3 (c : CmdN) {n : Int} (h0 : 0 ≤ n) (h1 : n ≤ mostOf 3) : readF c 3 ⟨(printD n).toArray⟩ = ({ c with delay := n }, true) := by
  rw [readF, if_neg (by decide)]
  simp only [parse_print h0 h1]
  simp
theorem readF_4 (c : CmdN) {n : Int} (h0 : 0 ≤ n) (h1 : n ≤ mostOf 4) : readF c 4 ⟨(printD n).toArray⟩ = ({ c with ttr := n }, true) := by
  rw [readF, if_neg (by decide)]
  simp only [parse_print h0 h1]
  simp
theorem readF_5 (c : CmdN) {n : Int} (h0 : 0 ≤ n) (h1 : n ≤ mostOf 5) : readF c 5 ⟨(printD n).toArray⟩ = ({ c with number := n }, true) := by
  rw [readF, if_neg (by decide)]
  simp only [parse_print h0 h1]
  simp
theorem readF_6 (c : CmdN) {x : ByteArray} (h : validB x.data.toList = true) : readF c 6 x = ({ c with tube := x }, true) := by
  rw [readF, if_pos rfl, h]

theorem num_yes {has : Bool} {n m : Int} (h : numOk has n m = true) (hh : has = true) : 0 ≤ n ∧ n ≤ m := by simpa [numOk, hh] using h
theorem num_no {has : Bool} {n m : Int} (h : numOk has n m = true) (hh : has = false) : n = 0 := by simpa [numOk, hh] using h
theorem tube_no {has : Bool} {t : ByteArray} (h : tubeOk has t.data.toList = true) (hh : has = false) : t = ⟨#[]⟩ := by
  have : t.data.toList = [] := by simpa [tubeOk, hh] using h
  exact data_ext (by rw [this])
theorem tube_yes {has : Bool} {t : ByteArray} (h : tubeOk has t.data.toList = true) (hh : has = true) : validB t.data.toList = true := by simpa [tubeOk, hh] using h

theorem read_back {k : Nat} {c : CmdN} (hk : k < 26) (hc : c.kind = k) (hr : rightK k c = true) : readAll (behindAt k) ((behindAt k).map (wordL c)) (kindC k) = some c := by
  have r0 : numOk (hasL k 105) c.id (mostOf 1) = true := right_at hr (j := 0) (by omega)
  have r1 : numOk (hasL k 112) c.pri (mostOf 2) = true := right_at hr (j := 1) (by omega)
  have r2 : numOk (hasL k 100) c.delay (mostOf 3) = true := right_at hr (j := 2) (by omega)
  have r3 : numOk (hasL k 116) c.ttr (mostOf 4) = true := right_at hr (j := 3) (by omega)
  have r4 : numOk (hasL k 110) c.number (mostOf 5) = true := right_at hr (j := 4) (by omega)
  have r5 : tubeOk (hasL k 117) c.tube.data.toList = true := right_at hr (j := 5) (by omega)
  obtain ⟨kind, id, pri, delay, ttr, number, tube⟩ := c
  simp only at hc r0 r1 r2 r3 r4 r5
  subst hc
  have f1 : fieldB 105 = 1 := rfl
  have f2 : fieldB 112 = 2 := rfl
  have f3 : fieldB 100 = 3 := rfl
  have f4 : fieldB 116 = 4 := rfl
  have f5 : fieldB 110 = 5 := rfl
  have f6 : fieldB 117 = 6 := rfl
  have hl : ∀ F, behindAt k = F → ∀ r, hasL k r = F.any fun b => b.toNat == r := fun F h r => by rw [hasL, h]
  rcases form_cases hk with h | h | h | h | h | h | h | h
  · rw [num_no r0 (hl _ h 105), num_no r1 (hl _ h 112), num_no r2 (hl _ h 100), num_no r3 (hl _ h 116), num_no r4 (hl _ h 110), tube_no r5 (hl _ h 117), h]
    rfl
  · rw [num_no r0 (hl _ h 105), tube_no r5 (hl _ h 117), h]
    have a1 := num_yes r1 (hl _ h 112)
    have a2 := num_yes r2 (hl _ h 100)
    have a3 := num_yes r3 (hl _ h 116)
    have a4 := num_yes r4 (hl _ h 110)
    simp only [List.map_cons, List.map_nil, readAll, wordL_112, wordL_100, wordL_116, wordL_110, f2, f3, f4, f5, readF_2 _ a1.1 a1.2, readF_3 _ a2.1 a2.2, readF_4 _ a3.1 a3.2, readF_5 _ a4.1 a4.2, if_true]
    rfl
  · rw [num_no r0 (hl _ h 105), num_no r1 (hl _ h 112), num_no r2 (hl _ h 100), num_no r3 (hl _ h 116), num_no r4 (hl _ h 110), h]
    simp only [List.map_cons, List.map_nil, readAll, wordL_117, f6, readF_6 _ (tube_yes r5 (hl _ h 117)), if_true]
    rfl
  · rw [num_no r0 (hl _ h 105), num_no r1 (hl _ h 112), num_no r2 (hl _ h 100), num_no r3 (hl _ h 116), tube_no r5 (hl _ h 117), h]
    have a4 := num_yes r4 (hl _ h 110)
    simp only [List.map_cons, List.map_nil, readAll, wordL_110, f5, readF_5 _ a4.1 a4.2, if_true]
    rfl
  · rw [num_no r1 (hl _ h 112), num_no r2 (hl _ h 100), num_no r3 (hl _ h 116), num_no r4 (hl _ h 110), tube_no r5 (hl _ h 117), h]
    have a0 := num_yes r0 (hl _ h 105)
    simp only [List.map_cons, List.map_nil, readAll, wordL_105, f1, readF_1 _ a0.1 a0.2, if_true]
    rfl
  · rw [num_no r3 (hl _ h 116), num_no r4 (hl _ h 110), tube_no r5 (hl _ h 117), h]
    have a0 := num_yes r0 (hl _ h 105)
    have a1 := num_yes r1 (hl _ h 112)
    have a2 := num_yes r2 (hl _ h 100)
    simp only [List.map_cons, List.map_nil, readAll, wordL_105, wordL_112, wordL_100, f1, f2, f3, readF_1 _ a0.1 a0.2, readF_2 _ a1.1 a1.2, readF_3 _ a2.1 a2.2, if_true]
    rfl
  · rw [num_no r2 (hl _ h 100), num_no r3 (hl _ h 116), num_no r4 (hl _ h 110), tube_no r5 (hl _ h 117), h]
    have a0 := num_yes r0 (hl _ h 105)
    have a1 := num_yes r1 (hl _ h 112)
    simp only [List.map_cons, List.map_nil, readAll, wordL_105, wordL_112, f1, f2, readF_1 _ a0.1 a0.2, readF_2 _ a1.1 a1.2, if_true]
    rfl
  · rw [num_no r0 (hl _ h 105), num_no r1 (hl _ h 112), num_no r2 (hl _ h 100), num_no r3 (hl _ h 116), h]
    have a4 := num_yes r4 (hl _ h 110)
    simp only [List.map_cons, List.map_nil, readAll, wordL_117, wordL_110, f6, f5, readF_6 _ (tube_yes r5 (hl _ h 117)), readF_5 _ a4.1 a4.2, if_true]
    rfl

/-- WRITTEN AND READ BACK -/
theorem parse_line {k : Nat} {c : CmdN} (h1 : 1 ≤ k) (hk : k < 26) (hc : c.kind = k) (hr : rightK k c = true) : parseRes ⟨(lineL k c).toArray⟩ = (c, 0) := by
  have ht : ttrOne c = c := by
    rw [ttrOne, if_neg]
    rintro ⟨h, h0⟩
    rw [rightK, Bool.and_eq_true] at hr
    have h2 := hr.2
    have hk1 : k = 1 := by omega
    rw [hk1, h0] at h2
    simp at h2
  rw [parseRes, cut_is]
  simp only [line_head h1 hk hr, kind_verb h1 hk, line_words h1 hk hr, wordsL_words h1 hk hr, wordsL_length]
  rw [if_neg (by omega), if_neg (by simp; omega), show (wordsL k c).drop 1 = (behindAt k).map (wordL c) from rfl, read_back hk hc hr]
  simp only [ht]

/-- how long a field's word may be -/
def longest (b : UInt8) : Nat := if b = 117 then 200 else if b = 105 then 19 else 10
theorem lines_short : ((List.range 26).all fun k => decide ((verbAt k).length + ((behindAt k).map fun b => longest b + 1).sum ≤ 222)) = true := by kernel_rfl
theorem print_short {n : Int} {k : Nat} (h0 : 0 ≤ n) (h1 : n.toNat < 10 ^ (k + 1)) : (printD n).length ≤ k + 1 := by
  rw [printD_nat n h0]; exact dec_len k _ h1
theorem field_short {k : Nat} {c : CmdN} (hk : k < 26) (hr : rightK k c = true) {b : UInt8} (hb : b ∈ behindAt k) : (wordL c b).data.toList.length ≤ longest b := by
  have hh := fun (r : UInt8) (h : r ∈ behindAt k) => hasL_of h
  rcases behind_letter hk hb with rfl | rfl | rfl | rfl | rfl | rfl
  · rw [wordL_105]
    have := num_yes (right_at hr (j := 0) (by omega)) (hh _ hb)
    rw [mostOf, if_pos rfl] at this
    exact print_short (k := 18) this.1 (by omega)
  · rw [wordL_112]
    have := num_yes (right_at hr (j := 1) (by omega)) (hh _ hb)
    rw [mostOf, if_neg (by decide)] at this
    exact print_short (k := 9) this.1 (by omega)
  · rw [wordL_100]
    have := num_yes (right_at hr (j := 2) (by omega)) (hh _ hb)
    rw [mostOf, if_neg (by decide)] at this
    exact print_short (k := 9) this.1 (by omega)
  · rw [wordL_116]
    have := num_yes (right_at hr (j := 3) (by omega)) (hh _ hb)
    rw [mostOf, if_neg (by decide)] at this
    exact print_short (k := 9) this.1 (by omega)
  · rw [wordL_110]
    have := num_yes (right_at hr (j := 4) (by omega)) (hh _ hb)
    rw [mostOf, if_neg (by decide)] at this
    exact print_short (k := 9) this.1 (by omega)
  · rw [wordL_117]
    exact valid_len _ (tube_yes (right_at hr (j := 5) (by omega)) (hh _ hb))
theorem joinTail_len (sep : UInt8) : ∀ (r : List (List UInt8)), (Lib.joinTail [sep] r).length = (r.map fun x => x.length + 1).sum
  | [] => rfl
  | y :: r => by
    have e : Lib.joinTail [sep] (y :: r) = sep :: (y ++ Lib.joinTail [sep] r) := rfl
    rw [e, List.length_cons, List.length_append, joinTail_len sep r, List.map_cons, List.sum_cons]
    omega
theorem sum_le {α : Type} (f g : α → Nat) : ∀ (l : List α), (∀ x ∈ l, f x ≤ g x) → (l.map f).sum ≤ (l.map g).sum
  | [], _ => Nat.le_refl _
  | x :: l, h => by
    have h1 := h x (by simp)
    have h2 := sum_le f g l fun y hy => h y (by simp [hy])
    simp only [List.map_cons, List.sum_cons]
    omega
theorem line_is (k : Nat) (c : CmdN) : lineL k c = verbAt k ++ Lib.joinTail [32] ((behindAt k).map fun b => (wordL c b).data.toList) := by
  rw [lineL, wordsL, List.map_cons, Lib.join_cons, List.map_map]
  rfl
theorem line_len {k : Nat} {c : CmdN} (hk : k < 26) (hr : rightK k c = true) : (lineL k c).length ≤ 222 := by
  have h := List.all_eq_true.1 lines_short k (List.mem_range.2 hk)
  simp only [decide_eq_true_eq] at h
  have h2 := sum_le (fun b => (wordL c b).data.toList.length + 1) (fun b => longest b + 1) (behindAt k) fun b hb => Nat.succ_le_succ (field_short hk hr hb)
  rw [line_is, List.length_append, joinTail_len, List.map_map]
  exact Nat.le_trans (Nat.add_le_add_left h2 _) h
end Go.Proofs.YtlhkelgkkfnfoaaDoor
