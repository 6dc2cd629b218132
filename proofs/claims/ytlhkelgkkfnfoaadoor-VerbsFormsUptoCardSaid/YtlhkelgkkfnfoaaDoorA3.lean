/- Words of a line: digits' words, Split, Print, Join. -/
import Derived.Test.YtlhkelgkkfnfoaaDoorA2
import Derived.ChangeAgain
import Derived.Lib.AppendIntMem
import Derived.Lib.SplitLaws
namespace Go.Proofs.YtlhkelgkkfnfoaaDoor
open Go.RowKit

/-- what the library's calls ask of the world -/
structure Good (w : World) : Prop where
  shaped : w.ShapedOpen Tryd.prog
  tab : Lib.TabBelow Tryd.prog w.heap.size w "internal/strconv.uint64pow10" .u64 Lib.pow10Tab
theorem Good.below {w w' : World} (h : Good w) (hb : Below w.heap.size w w') : Good w' :=
  ⟨h.shaped.keptBut (hb.frame fun _ => False) (fun _ h => h.elim), Lib.tabBelow_of_tabIs (h.tab w' hb)⟩
theorem Good.here {w : World} (h : Good w) : Lib.TabIs Tryd.prog w "internal/strconv.uint64pow10" .u64 Lib.pow10Tab := h.tab.here

/-- the cells of a row of texts -/
def TextsAt (w : World) (b o : Nat) (xs : List ByteArray) : Prop := ∀ (j : Nat) (x : ByteArray), xs[j]? = some x → w.cell? ⟨b, o + j, none⟩ = some (.string x)
theorem TextsAt.below {w w' : World} {b o : Nat} {xs : List ByteArray} (h : TextsAt w b o xs) (hb : Below w.heap.size w w') (hlt : b < w.heap.size) : TextsAt w' b o xs :=
  fun j x hx => (hb.cell (p := ⟨b, o + j, none⟩) hlt).trans (h j x hx)

def allWords (xs : List ByteArray) : Bool := xs.all fun x => wordB x.data.toList

set_option maxHeartbeats 400000 in
theorem words_any (b o c : Nat) (xs : List ByteArray) (w : World) (hx : TextsAt w b o xs) (hlt : b < w.heap.size) (hn : xs.length ≤ 9223372036854775806) :
    Calls Tryd.prog 45 #[.slice (some ⟨b, o, none⟩) xs.length c] w fun e w' => e = .returned (.bool (allWords xs && decide (0 < xs.length))) ∧ Below w.heap.size w w' := by
  have HX := Lib.hid hx
  clear hx
  go_enter Tryd.func45, Tryd.ntmps45
  go_wp2
  go_loopw [7, 4] (fun t _ w' => ∃ k : Nat, k ≤ xs.length ∧ t = .int .i64 k ∧ Below w.heap.size w w' ∧ Hid (allWords (xs.take k) = true)) (fun t _ _ => xs.length - (intOf t).toNat)
  case atStart => exact ⟨0, Nat.zero_le _, rfl, Below.refl _ _, rfl⟩
  case round =>
    obtain ⟨k, hk, rfl, hb, hall⟩ := hrel
    by_cases hl : k < xs.length
    · have hcell : wr.cell? ⟨b, o + k, none⟩ = some (.string xs[k]) := HX.out.below hb hlt k _ (List.getElem?_eq_getElem hl)
      by_cases hw : wordB xs[k].data.toList = true
      · go_wp2_with (go_at_call 61; refine (word_any _ _).mono ?_; rintro e w' ⟨rfl, hb1⟩)
        go_roundw
        case rel => exact ⟨k + 1, by omega, by go_num, hb.trans (hb1.mono hb.size), by
          show allWords (xs.take (k + 1)) = true
          rw [List.take_succ_eq_append_getElem hl, allWords, List.all_append, show (xs.take k).all _ = true from hall.out]; simp [hw]⟩
        case measure => simp [intOf]; omega
      · have hw' : wordB xs[k].data.toList = false := by simpa using hw
        go_wp2_with (go_at_call 61; refine (word_any _ _).mono ?_; rintro e w' ⟨rfl, hb1⟩)
        go_ret
        refine ⟨ret_bool ?_, hb.trans (hb1.mono hb.size)⟩
        have : allWords xs = false := by
          rw [allWords, List.all_eq_false]; exact ⟨xs[k], List.getElem_mem _, by simp [hw']⟩
        rw [this]; rfl
    · go_wp2
      go_ret
      refine ⟨ret_bool ?_, hb⟩
      have : allWords xs = true := by
        have e := hall.out
        rw [List.take_of_length_le (by omega)] at e; exact e
      rw [this]; simp

/-- the words of a line, as Split cuts it -/
def wordsOf (s : ByteArray) : List ByteArray := Lib.splitB ⟨#[32]⟩ 0 (Lib.countB s ⟨#[32]⟩) s
theorem wordsOf_length (s : ByteArray) : (wordsOf s).length = Lib.countB s ⟨#[32]⟩ + 1 := Lib.splitB_all ⟨#[32]⟩ (by decide) 0 _ s rfl
theorem wordsOf_le (s : ByteArray) : (wordsOf s).length ≤ s.size + 1 := by
  rw [wordsOf_length]
  have := Lib.countB_le ⟨#[32]⟩ (by decide) s.size s (Nat.le_refl _)
  omega

theorem texts_new (w : World) (xs : List ByteArray) : TextsAt (w.alloc (.cells (xs.map Value.string).toArray 9)) w.heap.size 0 xs := by
  intro j x hx
  rw [cell_of_row _ _ _ _ 9 (0, 0) (heap_alloc_last w _)]
  simp [hx]

set_option maxHeartbeats 400000 in
theorem dsplit_yes (s : ByteArray) (w : World) (hg : Good w) (hs : s.size < 4294967281) (hw : allWords (wordsOf s) = true) :
    Calls Tryd.prog 28 #[.string s] w fun e w' => e = .returned (.tuple #[.slice (some ⟨w.heap.size, 0, none⟩) (wordsOf s).length (wordsOf s).length, .bool true]) ∧ Below w.heap.size w w' ∧ TextsAt w' w.heap.size 0 (wordsOf s) ∧ w.heap.size < w'.heap.size := by
  have hlen := wordsOf_length s
  have hle := wordsOf_le s
  have hsh := Lib.hid hg.shaped
  have hpos : 0 < (wordsOf s).length := by omega
  have hw2 : (allWords (wordsOf s) && decide (0 < (wordsOf s).length)) = true := by rw [hw, decide_eq_true hpos]; rfl
  have HT := Lib.hid (texts_new w (wordsOf s))
  have HL := Lib.hid hlen
  clear hlen hg hw hpos
  go_enter Tryd.func28, Tryd.ntmps28
  go_wp2_with fail
  refine (Tryd.strings_Split_shaped _ _ _ hsh.out hs (by decide)).mono ?_
  rintro e w1 ⟨rfl, rfl⟩
  rw [← HL.out]
  go_wp2_with fail
  refine (words_any w.heap.size 0 _ (wordsOf s) _ HT.out (by simp) (by omega)).mono ?_
  rintro e w1 ⟨rfl, hb⟩
  go_wp2_with fail
  go_ret2
  have hb' : Below (w.heap.size + 1) (w.alloc (.cells ((wordsOf s).map Value.string).toArray 9)) w1 := by simpa using hb
  refine ⟨rfl, ((Below.refl _ _).alloc (Nat.le_refl _) _).trans (hb'.mono (by omega)), ?_, by have := hb'.size; simp at this; omega⟩
  exact HT.out.below (by simpa using hb) (by simp)
set_option maxHeartbeats 400000 in
theorem dsplit_no (s : ByteArray) (w : World) (hg : Good w) (hs : s.size < 4294967281) (hw : allWords (wordsOf s) = false) :
    Calls Tryd.prog 28 #[.string s] w fun e w' => e = .returned (.tuple #[.slice none 0 0, .bool false]) ∧ Below w.heap.size w w' := by
  have hlen := wordsOf_length s
  have hle := wordsOf_le s
  have hsh := Lib.hid hg.shaped
  have hw2 : (allWords (wordsOf s) && decide (0 < (wordsOf s).length)) = false := by rw [hw]; rfl
  have HT := Lib.hid (texts_new w (wordsOf s))
  have HL := Lib.hid hlen
  clear hlen hg hw
  go_enter Tryd.func28, Tryd.ntmps28
  go_wp2_with fail
  refine (Tryd.strings_Split_shaped _ _ _ hsh.out hs (by decide)).mono ?_
  rintro e w1 ⟨rfl, rfl⟩
  rw [← HL.out]
  go_wp2_with fail
  refine (words_any w.heap.size 0 _ (wordsOf s) _ HT.out (by simp) (by omega)).mono ?_
  rintro e w1 ⟨rfl, hb⟩
  go_wp2_with fail
  go_ret2
  have hb' : Below (w.heap.size + 1) (w.alloc (.cells ((wordsOf s).map Value.string).toArray 9)) w1 := by simpa using hb
  exact ⟨rfl, ((Below.refl _ _).alloc (Nat.le_refl _) _).trans (hb'.mono (by omega))⟩

theorem below_grow (w : World) (k : Nat) (os : Array Obj) : Below w.heap.size w («Sort».grow (w.drewN k) os) :=
  ⟨rfl, rfl, rfl, by show w.heap.size ≤ (w.heap ++ os).size; simp, fun i hi => by show (w.heap ++ os)[i]? = _; rw [Array.getElem?_append_left hi]⟩
set_option maxHeartbeats 400000 in
theorem dprint_any (n : Int) (w : World) (hg : Good w) (h1 : -9223372036854775808 ≤ n) (h2 : n ≤ 9223372036854775807) :
    Calls Tryd.prog 36 #[.int .i64 n] w fun e w' => e = .returned (.string ⟨(printD n).toArray⟩) ∧ Below w.heap.size w w' := by
  have ht := Lib.hid hg.here
  clear hg
  by_cases h : n < 0
  · go_enter Tryd.func36, Tryd.ntmps36
    go_wp2
    go_ret
    have hp : printD n = [] := by rw [printD, if_pos h]
    rw [hp]
    exact ⟨rfl, Below.refl _ _⟩
  · go_enter Tryd.func36, Tryd.ntmps36
    go_wp2_with (go_at_call 54; refine (Tryd.strconv_Itoa _ h1 h2 _ ht.out).mono ?_; rintro e w' ⟨rfl, k, os, rfl⟩)
    go_ret
    have hp : printD n = Lib.itoa n := by rw [printD, if_neg (by omega)]
    rw [hp]
    exact ⟨rfl, below_grow w k os⟩
set_option maxHeartbeats 400000 in
theorem djoin_any (b o c : Nat) (xs : List ByteArray) (w : World) (hx : TextsAt w b o xs) (hlt : b < w.heap.size) (hc : xs.length ≤ c) (hn : xs.length ≤ 140737488355328) (hw : allWords xs = true) (h0 : 0 < xs.length)
    (hl : (Lib.join (xs.map fun x => x.data.toList) [32]).length ≤ 140737488355328) :
    Calls Tryd.prog 38 #[.slice (some ⟨b, o, none⟩) xs.length c] w fun e w' => e = .returned (.tuple #[.string ⟨(Lib.join (xs.map fun x => x.data.toList) [32]).toArray⟩, .bool true]) ∧ Below w.heap.size w w' := by
  have HX := Lib.hid hx
  have hw2 : (allWords xs && decide (0 < xs.length)) = true := by rw [hw, decide_eq_true h0]; rfl
  clear hx
  go_enter Tryd.func38, Tryd.ntmps38
  go_wp2_with fail
  refine (words_any b o c xs _ HX.out hlt (by omega)).mono ?_
  rintro e w1 ⟨rfl, hb⟩
  go_wp2_with fail
  refine (Tryd.strings_Join b o c xs ⟨#[32]⟩ w1 (HX.out.below hb hlt) (by have := hb.size; omega) hn hc (by exact hl)).mono ?_
  rintro e w2 ⟨rfl, hb2⟩
  go_wp2_with fail
  go_ret2
  exact ⟨rfl, hb.trans (hb2.mono hb.size)⟩
end Go.Proofs.YtlhkelgkkfnfoaaDoor
