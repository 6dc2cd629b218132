/- verbs.read: a field out of a word. -/
import Derived.Test.YtlhkelgkkfnfoaaDoorA7
namespace Go.Proofs.YtlhkelgkkfnfoaaDoor
open Go.RowKit

/-- a command with a field read from a word, and whether the word is one such -/
def readF (c : CmdN) (f : Int) (x : ByteArray) : CmdN × Bool :=
  if f = 6 then ({ c with tube := x }, validB x.data.toList)
  else
    let r := parseD x.data.toList (mostOf f)
    (if f = 1 then { c with id := r.1 } else if f = 2 then { c with pri := r.1 } else if f = 3 then { c with delay := r.1 } else if f = 4 then { c with ttr := r.1 } else { c with number := r.1 }, r.2)

theorem setCell_below {B : Nat} {w w2 : World} {b o : Nat} (h : Below w.heap.size w w2) (hb : B ≤ b) (hB : B ≤ w.heap.size) (v : Value) : Below B w (w2.setCell ⟨b, o, none⟩ v) :=
  (h.mono hB).trans ⟨rfl, rfl, rfl, by simp [World.setCell], fun k hk => Below.heap_setCell _ _ _ _ (by show k ≠ b; omega)⟩

/-- what the cells of a command become when one of them is written -/
theorem row_set {w : World} {b j : Nat} {cs : Array Value} (h : w.heap[b]? = some (.cells cs 27 (0, 0))) (v : Value) : (w.setCell ⟨b, j, none⟩ v).heap[b]? = some (.cells (cs.setIfInBounds j v) 27 (0, 0)) := by
  simp only [World.setCell, Array.getElem?_modify]
  rw [h]
  simp

set_option maxHeartbeats 400000 in
theorem read_tube (c : CmdN) (v : Value) (b : Nat) (x : ByteArray) (w : World) (hx : x.size ≤ 9223372036854775807) (hr : w.heap[b]? = some (.cells (c.cells v) 27 (0, 0))) :
    Calls Tryd.prog 29 #[.pointer (some ⟨b, 0, none⟩), .int .i64 6, .string x] w fun e w' => e = .returned (.bool (readF c 6 x).2) ∧ w' = w.setCell ⟨b, 6, none⟩ (.string x) := by
  have hc : w.cell? ⟨b, 6, none⟩ = some (.string c.tube) := (cell_of_row _ _ 6 _ 27 (0, 0) hr).trans rfl
  have hf : w.frozen? ⟨b, 6, none⟩ = false := frozen_of_row _ _ 6 _ 27 hr
  clear hr
  go_enter Tryd.func29, Tryd.ntmps29
  go_wp2_with fail
  refine (valid_any _ _ hx).mono ?_
  rintro e w1 ⟨rfl, rfl⟩
  go_wp2_with fail
  go_ret
  exact ⟨rfl, rfl⟩

theorem mostOf_1 : 9 ≤ mostOf 1 ∧ mostOf 1 ≤ 4611686018427387903 := by unfold mostOf; split <;> omega
theorem most_1 (w : World) : Calls Tryd.prog 48 #[.int .i64 1] w fun e w' => e = .returned (.int .i64 (mostOf 1)) ∧ w' = w := most_any 1 w
set_option maxHeartbeats 400000 in
theorem read_1 (c : CmdN) (v : Value) (b : Nat) (x : ByteArray) (w : World) (hr : w.heap[b]? = some (.cells (c.cells v) 27 (0, 0))) :
    Calls Tryd.prog 29 #[.pointer (some ⟨b, 0, none⟩), .int .i64 1, .string x] w fun e w' => e = .returned (.bool (readF c 1 x).2) ∧ ∃ w1, Below w.heap.size w w1 ∧ w' = w1.setCell ⟨b, 1, none⟩ (.int .i64 (parseD x.data.toList (mostOf 1)).1) := by
  have HR := Lib.hid hr
  have HM := Lib.hid mostOf_1
  clear hr
  go_enter Tryd.func29, Tryd.ntmps29
  go_wp2_with fail
  refine (most_1 _).mono ?_
  rintro e w1 ⟨rfl, rfl⟩
  go_wp2_with fail
  refine (parseD_any _ _ _ HM.out.1 HM.out.2).mono ?_
  rintro e w2 ⟨rfl, hb⟩
  have hr2 := (hb.block _ (lt_of_heap HR.out)).trans HR.out
  have hc : w2.cell? ⟨b, 1, none⟩ = some (.int .i64 c.id) := (cell_of_row _ _ 1 _ 27 (0, 0) hr2).trans rfl
  have hf : w2.frozen? ⟨b, 1, none⟩ = false := frozen_of_row _ _ 1 _ 27 hr2
  clear hr2
  have HB := Lib.hid hb
  clear hb
  go_wp2_with (go_at_call 37; refine (at_1 _ _).mono ?_; rintro e w' ⟨rfl, rfl⟩)
  go_ret
  exact ⟨rfl, _, HB.out, rfl⟩

theorem mostOf_2 : 9 ≤ mostOf 2 ∧ mostOf 2 ≤ 4611686018427387903 := by unfold mostOf; split <;> omega
theorem most_2 (w : World) : Calls Tryd.prog 48 #[.int .i64 2] w fun e w' => e = .returned (.int .i64 (mostOf 2)) ∧ w' = w := most_any 2 w
set_option maxHeartbeats 400000 in
theorem read_2 (c : CmdN) (v : Value) (b : Nat) (x : ByteArray) (w : World) (hr : w.heap[b]? = some (.cells (c.cells v) 27 (0, 0))) :
    Calls Tryd.prog 29 #[.pointer (some ⟨b, 0, none⟩), .int .i64 2, .string x] w fun e w' => e = .returned (.bool (readF c 2 x).2) ∧ ∃ w1, Below w.heap.size w w1 ∧ w' = w1.setCell ⟨b, 2, none⟩ (.int .i64 (parseD x.data.toList (mostOf 2)).1) := by
  have HR := Lib.hid hr
  have HM := Lib.hid mostOf_2
  clear hr
  go_enter Tryd.func29, Tryd.ntmps29
  go_wp2_with fail
  refine (most_2 _).mono ?_
  rintro e w1 ⟨rfl, rfl⟩
  go_wp2_with fail
  refine (parseD_any _ _ _ HM.out.1 HM.out.2).mono ?_
  rintro e w2 ⟨rfl, hb⟩
  have hr2 := (hb.block _ (lt_of_heap HR.out)).trans HR.out
  have hc : w2.cell? ⟨b, 2, none⟩ = some (.int .i64 c.pri) := (cell_of_row _ _ 2 _ 27 (0, 0) hr2).trans rfl
  have hf : w2.frozen? ⟨b, 2, none⟩ = false := frozen_of_row _ _ 2 _ 27 hr2
  clear hr2
  have HB := Lib.hid hb
  clear hb
  go_wp2_with (go_at_call 37; refine (at_2 _ _).mono ?_; rintro e w' ⟨rfl, rfl⟩)
  go_ret
  exact ⟨rfl, _, HB.out, rfl⟩

theorem mostOf_3 : 9 ≤ mostOf 3 ∧ mostOf 3 ≤ 4611686018427387903 := by unfold mostOf; split <;> omega
theorem most_3 (w : World) : Calls Tryd.prog 48 #[.int .i64 3] w fun e w' => e = .returned (.int .i64 (mostOf 3)) ∧ w' = w := most_any 3 w
set_option maxHeartbeats 400000 in
theorem read_3 (c : CmdN) (v : Value) (b : Nat) (x : ByteArray) (w : World) (hr : w.heap[b]? = some (.cells (c.cells v) 27 (0, 0))) :
    Calls Tryd.prog 29 #[.pointer (some ⟨b, 0, none⟩), .int .i64 3, .string x] w fun e w' => e = .returned (.bool (readF c 3 x).2) ∧ ∃ w1, Below w.heap.size w w1 ∧ w' = w1.setCell ⟨b, 3, none⟩ (.int .i64 (parseD x.data.toList (mostOf 3)).1) := by
  have HR := Lib.hid hr
  have HM := Lib.hid mostOf_3
  clear hr
  go_enter Tryd.func29, Tryd.ntmps29
  go_wp2_with fail
  refine (most_3 _).mono ?_
  rintro e w1 ⟨rfl, rfl⟩
  go_wp2_with fail
  refine (parseD_any _ _ _ HM.out.1 HM.out.2).mono ?_
  rintro e w2 ⟨rfl, hb⟩
  have hr2 := (hb.block _ (lt_of_heap HR.out)).trans HR.out
  have hc : w2.cell? ⟨b, 3, none⟩ = some (.int .i64 c.delay) := (cell_of_row _ _ 3 _ 27 (0, 0) hr2).trans rfl
  have hf : w2.frozen? ⟨b, 3, none⟩ = false := frozen_of_row _ _ 3 _ 27 hr2
  clear hr2
  have HB := Lib.hid hb
  clear hb
  go_wp2_with (go_at_call 37; refine (at_3 _ _).mono ?_; rintro e w' ⟨rfl, rfl⟩)
  go_ret
  exact ⟨rfl, _, HB.out, rfl⟩

theorem mostOf_4 : 9 ≤ mostOf 4 ∧ mostOf 4 ≤ 4611686018427387903 := by unfold mostOf; split <;> omega
theorem most_4 (w : World) : Calls Tryd.prog 48 #[.int .i64 4] w fun e w' => e = .returned (.int .i64 (mostOf 4)) ∧ w' = w := most_any 4 w
set_option maxHeartbeats 400000 in
theorem read_4 (c : CmdN) (v : Value) (b : Nat) (x : ByteArray) (w : World) (hr : w.heap[b]? = some (.cells (c.cells v) 27 (0, 0))) :
    Calls Tryd.prog 29 #[.pointer (some ⟨b, 0, none⟩), .int .i64 4, .string x] w fun e w' => e = .returned (.bool (readF c 4 x).2) ∧ ∃ w1, Below w.heap.size w w1 ∧ w' = w1.setCell ⟨b, 4, none⟩ (.int .i64 (parseD x.data.toList (mostOf 4)).1) := by
  have HR := Lib.hid hr
  have HM := Lib.hid mostOf_4
  clear hr
  go_enter Tryd.func29, Tryd.ntmps29
  go_wp2_with fail
  refine (most_4 _).mono ?_
  rintro e w1 ⟨rfl, rfl⟩
  go_wp2_with fail
  refine (parseD_any _ _ _ HM.out.1 HM.out.2).mono ?_
  rintro e w2 ⟨rfl, hb⟩
  have hr2 := (hb.block _ (lt_of_heap HR.out)).trans HR.out
  have hc : w2.cell? ⟨b, 4, none⟩ = some (.int .i64 c.ttr) := (cell_of_row _ _ 4 _ 27 (0, 0) hr2).trans rfl
  have hf : w2.frozen? ⟨b, 4, none⟩ = false := frozen_of_row _ _ 4 _ 27 hr2
  clear hr2
  have HB := Lib.hid hb
  clear hb
  go_wp2_with (go_at_call 37; refine (at_4 _ _).mono ?_; rintro e w' ⟨rfl, rfl⟩)
  go_ret
  exact ⟨rfl, _, HB.out, rfl⟩

theorem mostOf_5 : 9 ≤ mostOf 5 ∧ mostOf 5 ≤ 4611686018427387903 := by unfold mostOf; split <;> omega
theorem most_5 (w : World) : Calls Tryd.prog 48 #[.int .i64 5] w fun e w' => e = .returned (.int .i64 (mostOf 5)) ∧ w' = w := most_any 5 w
set_option maxHeartbeats 400000 in
theorem read_5 (c : CmdN) (v : Value) (b : Nat) (x : ByteArray) (w : World) (hr : w.heap[b]? = some (.cells (c.cells v) 27 (0, 0))) :
    Calls Tryd.prog 29 #[.pointer (some ⟨b, 0, none⟩), .int .i64 5, .string x] w fun e w' => e = .returned (.bool (readF c 5 x).2) ∧ ∃ w1, Below w.heap.size w w1 ∧ w' = w1.setCell ⟨b, 5, none⟩ (.int .i64 (parseD x.data.toList (mostOf 5)).1) := by
  have HR := Lib.hid hr
  have HM := Lib.hid mostOf_5
  clear hr
  go_enter Tryd.func29, Tryd.ntmps29
  go_wp2_with fail
  refine (most_5 _).mono ?_
  rintro e w1 ⟨rfl, rfl⟩
  go_wp2_with fail
  refine (parseD_any _ _ _ HM.out.1 HM.out.2).mono ?_
  rintro e w2 ⟨rfl, hb⟩
  have hr2 := (hb.block _ (lt_of_heap HR.out)).trans HR.out
  have hc : w2.cell? ⟨b, 5, none⟩ = some (.int .i64 c.number) := (cell_of_row _ _ 5 _ 27 (0, 0) hr2).trans rfl
  have hf : w2.frozen? ⟨b, 5, none⟩ = false := frozen_of_row _ _ 5 _ 27 hr2
  clear hr2
  have HB := Lib.hid hb
  clear hb
  go_wp2_with (go_at_call 37; refine (at_5 _ _).mono ?_; rintro e w' ⟨rfl, rfl⟩)
  go_ret
  exact ⟨rfl, _, HB.out, rfl⟩
end Go.Proofs.YtlhkelgkkfnfoaaDoor
