/- The document's examples, at the head of all statements: they are as the document says. -/
import Derived.Test.YtlhkelgkkfnfoaaDoorAc
namespace Go.Proofs.YtlhkelgkkfnfoaaDoor
open Go.RowKit

def line1 : ByteArray := ⟨#[112, 117, 116, 32, 48, 32, 49, 48, 32, 54, 48, 32, 53]⟩
def line2 : ByteArray := ⟨#[114, 101, 115, 101, 114, 118, 101, 88]⟩
def line3 : ByteArray := ⟨#[112, 117, 116, 32, 32, 48, 32, 48, 32, 49, 32, 49]⟩
def cmd1 : CmdN := ⟨1, 0, 0, 10, 60, 5, ⟨#[]⟩⟩
def cmd4 : CmdN := ⟨24, 0, 0, 0, 0, 7, ⟨#[97]⟩⟩
theorem res1 : parseRes line1 = (cmd1, 0) := by kernel_rfl
theorem res2 : parseRes line2 = (zeroC, 70) := by kernel_rfl
theorem res3 : parseRes line3 = (zeroC, 71) := by kernel_rfl
theorem res5 : checkB cmd1 0 = false := by kernel_rfl
theorem right4 : (rightB cmd4 && ((cmd4.kind == 1) || (0 : Nat) == 0)) = true := by kernel_rfl
theorem print7 : printD 7 = [55] := by rw [printD_nat 7 (by omega)]; exact Lib.decDigits_one (by omega)
theorem res4 : printRes cmd4 0 = ([112, 97, 117, 115, 101, 45, 116, 117, 98, 101, 32, 97, 32, 55], 0) := by
  rw [printRes, if_pos right4]
  have e : wordL cmd4 110 = ⟨#[55]⟩ := by rw [wordL_110, show cmd4.number = 7 from rfl, print7]
  have e2 : wordL cmd4 117 = ⟨#[97]⟩ := wordL_117 _
  have e3 : wordsL 24 cmd4 = [⟨(verbAt 24).toArray⟩, ⟨#[97]⟩, ⟨#[55]⟩] := by
    rw [wordsL, show behindAt 24 = [117, 110] from rfl, List.map_cons, List.map_cons, List.map_nil, e, e2]
  rw [show cmd4.kind.toNat = 24 from rfl, lineL, e3]
  rfl

theorem ex1 (w : World) (hg : Good w) : Calls Tryd.prog 13 #[.string ⟨#[112, 117, 116, 32, 48, 32, 49, 48, 32, 54, 48, 32, 53]⟩] w fun e w' =>
    e = .returned (.tuple #[.agg #[.int .i64 1, .int .i64 0, .int .i64 0, .int .i64 10, .int .i64 60, .int .i64 5, .string ⟨#[]⟩, .slice none 0 0], .int .i64 0]) ∧ Below w.heap.size w w' := by
  have := parse_any line1 w hg (by decide)
  rw [res1] at this
  exact this
theorem ex2 (w : World) (hg : Good w) : Calls Tryd.prog 13 #[.string ⟨#[114, 101, 115, 101, 114, 118, 101, 88]⟩] w fun e w' =>
    e = .returned (.tuple #[.agg #[.int .i64 0, .int .i64 0, .int .i64 0, .int .i64 0, .int .i64 0, .int .i64 0, .string ⟨#[]⟩, .slice none 0 0], .int .i64 70]) ∧ Below w.heap.size w w' := by
  have := parse_any line2 w hg (by decide)
  rw [res2] at this
  exact this
theorem ex3 (w : World) (hg : Good w) : Calls Tryd.prog 13 #[.string ⟨#[112, 117, 116, 32, 32, 48, 32, 48, 32, 49, 32, 49]⟩] w fun e w' =>
    e = .returned (.tuple #[.agg #[.int .i64 0, .int .i64 0, .int .i64 0, .int .i64 0, .int .i64 0, .int .i64 0, .string ⟨#[]⟩, .slice none 0 0], .int .i64 71]) ∧ Below w.heap.size w w' := by
  have := parse_any line3 w hg (by decide)
  rw [res3] at this
  exact this
theorem ex4 (w : World) (hg : Good w) : Calls Tryd.prog 17 #[.agg #[.int .i64 24, .int .i64 0, .int .i64 0, .int .i64 0, .int .i64 0, .int .i64 7, .string ⟨#[97]⟩, .slice none 0 0]] w fun e w' =>
    e = .returned (.tuple #[.string ⟨#[112, 97, 117, 115, 101, 45, 116, 117, 98, 101, 32, 97, 32, 55]⟩, .int .i64 0]) ∧ Below w.heap.size w w' := by
  have := print_any cmd4 none 0 0 w hg (by decide)
  rw [res4] at this
  exact this
theorem ex5 (w : World) : Calls Tryd.prog 20 #[.agg #[.int .i64 1, .int .i64 0, .int .i64 0, .int .i64 10, .int .i64 60, .int .i64 5, .string ⟨#[]⟩, .slice none 0 0]] w fun e w' =>
    e = .returned (.int .i64 72) ∧ Below w.heap.size w w' := by
  have := check_any cmd1 none 0 0 w (by decide)
  rw [res5] at this
  exact this
theorem ex6 (w : World) : Calls Tryd.prog 11 #[.int .i64 17] w fun e w' => e = .returned (.string ⟨#[107, 105, 99, 107, 45, 106, 111, 98]⟩) ∧ Below w.heap.size w w' := name_any 17 w

theorem shown_row {w w' : World} {o : Obj} {b : Nat} {ob : Obj} (h : w.heap[b]? = some ob) (hb : Below (w.alloc o).heap.size (w.alloc o) w') : w'.heap[b]? = some ob :=
  (hb.block _ (by have := lt_of_heap h; simp; omega)).trans ((Below.heap_alloc _ _ _ (lt_of_heap h)).trans h)

set_option maxHeartbeats 1000000 in
theorem shown_any (w : World) (hg : Good w) : Calls Tryd.prog 10 #[] w fun e w' => e = .returned (.bool true) ∧ Below w.heap.size w w' := by
  have HG := Lib.hid hg
  clear hg
  go_enter Tryd.func10, Tryd.ntmps10
  go_wp2_with fail
  refine (ex1 _ HG.out).mono ?_
  rintro e w1 ⟨rfl, hb1⟩
  have HG1 := Lib.hid (HG.out.below hb1)
  go_wp2_with fail
  refine (ex2 _ (HG1.out.below ((Below.refl _ _).alloc (Nat.le_refl _) _))).mono ?_
  rintro e w2 ⟨rfl, hb⟩
  obtain ⟨hb2, hz2, hr2⟩ := below_after hb
  have HR2 := Lib.hid hr2
  have HG2 := Lib.hid (HG1.out.below hb2)
  have hb2 := hb1.trans (hb2.mono hb1.size)
  clear hb1 hb HG1 HG hr2
  go_wp2_with fail
  refine (ex3 _ (HG2.out.below ((Below.refl _ _).alloc (Nat.le_refl _) _))).mono ?_
  rintro e w3 ⟨rfl, hb⟩
  have HR3 := Lib.hid (shown_row HR2.out hb)
  obtain ⟨hb3, hz3, -⟩ := below_after hb
  have HG3 := Lib.hid (HG2.out.below hb3)
  have hb3 := hb2.trans (hb3.mono hb2.size)
  clear hb2 hb HG2 HR2
  go_wp2_with fail
  refine (ex4 _ (HG3.out.below ((Below.refl _ _).alloc (Nat.le_refl _) _))).mono ?_
  rintro e w4 ⟨rfl, hb⟩
  have HR4 := Lib.hid (shown_row HR3.out hb)
  have hb4 := hb3.trans ((below_after hb).1.mono hb3.size)
  clear hb3 hb HG3 HR3
  go_wp2_with fail
  refine (ex6 _).mono ?_
  rintro e w5 ⟨rfl, hb⟩
  have hr5 := (hb.block _ (lt_of_heap HR4.out)).trans HR4.out
  have hb5 := hb4.trans (hb.mono hb4.size)
  have c0 : w5.cell? ⟨w1.heap.size, 0, none⟩ = some (.int .i64 1) := (cell_of_row _ _ 0 _ 27 (0, 0) hr5).trans rfl
  have c1 : w5.cell? ⟨w1.heap.size, 1, none⟩ = some (.int .i64 0) := (cell_of_row _ _ 1 _ 27 (0, 0) hr5).trans rfl
  have c2 : w5.cell? ⟨w1.heap.size, 2, none⟩ = some (.int .i64 0) := (cell_of_row _ _ 2 _ 27 (0, 0) hr5).trans rfl
  have c3 : w5.cell? ⟨w1.heap.size, 3, none⟩ = some (.int .i64 10) := (cell_of_row _ _ 3 _ 27 (0, 0) hr5).trans rfl
  have c4 : w5.cell? ⟨w1.heap.size, 4, none⟩ = some (.int .i64 60) := (cell_of_row _ _ 4 _ 27 (0, 0) hr5).trans rfl
  have c5 : w5.cell? ⟨w1.heap.size, 5, none⟩ = some (.int .i64 5) := (cell_of_row _ _ 5 _ 27 (0, 0) hr5).trans rfl
  have c6 : w5.cell? ⟨w1.heap.size, 6, none⟩ = some (.string ⟨#[]⟩) := (cell_of_row _ _ 6 _ 27 (0, 0) hr5).trans rfl
  have c7 : w5.cell? ⟨w1.heap.size, 7, none⟩ = some (.slice none 0 0) := (cell_of_row _ _ 7 _ 27 (0, 0) hr5).trans rfl
  clear hb hb4 HR4 hr5
  go_wp2_with fail
  refine (ex5 _).mono ?_
  rintro e w6 ⟨rfl, hb⟩
  have hb6 := hb5.trans (hb.mono hb5.size)
  clear hb hb5 c0 c1 c2 c3 c4 c5 c6 c7
  go_wp2_with fail
  go_ret
  exact ⟨rfl, hb6⟩
end Go.Proofs.YtlhkelgkkfnfoaaDoor
