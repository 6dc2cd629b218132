/- Whether a command's fields may be: verbs.right. -/
import Derived.Test.YtlhkelgkkfnfoaaDoorA3
namespace Go.Proofs.YtlhkelgkkfnfoaaDoor
open Go.RowKit

theorem fieldOf_105 (w : World) : Calls Tryd.prog 30 #[.int .i32 105] w fun e w' => e = .returned (.int .i64 1) ∧ w' = w := fieldOf_any 105 w
theorem fieldOf_112 (w : World) : Calls Tryd.prog 30 #[.int .i32 112] w fun e w' => e = .returned (.int .i64 2) ∧ w' = w := fieldOf_any 112 w
theorem fieldOf_100 (w : World) : Calls Tryd.prog 30 #[.int .i32 100] w fun e w' => e = .returned (.int .i64 3) ∧ w' = w := fieldOf_any 100 w
theorem fieldOf_116 (w : World) : Calls Tryd.prog 30 #[.int .i32 116] w fun e w' => e = .returned (.int .i64 4) ∧ w' = w := fieldOf_any 116 w
theorem fieldOf_110 (w : World) : Calls Tryd.prog 30 #[.int .i32 110] w fun e w' => e = .returned (.int .i64 5) ∧ w' = w := fieldOf_any 110 w
theorem fieldOf_117 (w : World) : Calls Tryd.prog 30 #[.int .i32 117] w fun e w' => e = .returned (.int .i64 6) ∧ w' = w := fieldOf_any 117 w

/-- has a kind this letter behind its verb? -/
def hasL (k : Nat) (r : Nat) : Bool := (behindAt k).any fun b => b.toNat == r
/-- the letters of all fields -/
def letters : ByteArray := ⟨#[105, 112, 100, 116, 110, 117]⟩
/-- a number's field -/
def numOk (has : Bool) (n most : Int) : Bool := if has then decide (0 ≤ n ∧ n ≤ most) else n == 0
/-- a tube's field -/
def tubeOk (has : Bool) (t : List UInt8) : Bool := if has then validB t else t.isEmpty

/-- a command but for its body -/
structure CmdN where
  kind : Int
  id : Int
  pri : Int
  delay : Int
  ttr : Int
  number : Int
  tube : ByteArray

def CmdN.cells (c : CmdN) (b : Value) : Array Value := #[.int .i64 c.kind, .int .i64 c.id, .int .i64 c.pri, .int .i64 c.delay, .int .i64 c.ttr, .int .i64 c.number, .string c.tube, b]
/-- is the field that a letter names as it may be? -/
def okAt (k : Nat) (c : CmdN) : Nat → Bool
  | 0 => numOk (hasL k 105) c.id (mostOf 1)
  | 1 => numOk (hasL k 112) c.pri (mostOf 2)
  | 2 => numOk (hasL k 100) c.delay (mostOf 3)
  | 3 => numOk (hasL k 116) c.ttr (mostOf 4)
  | 4 => numOk (hasL k 110) c.number (mostOf 5)
  | _ => tubeOk (hasL k 117) c.tube.data.toList
def okTo (k : Nat) (c : CmdN) : Nat → Bool
  | 0 => true
  | n + 1 => okTo k c n && okAt k c n
def rightK (k : Nat) (c : CmdN) : Bool := okTo k c 6 && (!(k == 1) || decide (0 < c.ttr))

theorem num_in {has : Bool} {n m : Int} (h : has = true) (h0 : 0 ≤ n) (h1 : n ≤ m) : numOk has n m = true := by simp [numOk, h, h0, h1]
theorem num_out {has : Bool} {n m : Int} (h : has = true) (h0 : n < 0 ∨ m < n) : numOk has n m = false := by simp [numOk, h]; omega
theorem num_zero {has : Bool} {n m : Int} (h : has = false) (h0 : (n != 0) = false) : numOk has n m = true := by simp [numOk, h]; simpa using h0
theorem num_non {has : Bool} {n m : Int} (h : has = false) (h0 : (n != 0) = true) : numOk has n m = false := by simp [numOk, h]; simpa using h0
theorem okTo_step {k : Nat} {c : CmdN} {n : Nat} (h : okTo k c n = true) (h1 : okAt k c n = true) : okTo k c (n + 1) = true := by rw [okTo, h, h1]; rfl
theorem right_false {k : Nat} {c : CmdN} (j : Nat) (hj : j < 6) (h : okAt k c j = false) : rightK k c = false := by
  have : okTo k c 6 = false := by
    have hj6 : j = 0 ∨ j = 1 ∨ j = 2 ∨ j = 3 ∨ j = 4 ∨ j = 5 := by omega
    rcases hj6 with rfl | rfl | rfl | rfl | rfl | rfl <;> simp [okTo, h]
  rw [rightK, this]; rfl
theorem behind_low : ((List.range 26).all fun k => (behindAt k).all fun b => decide (b.toNat < 128)) = true := by kernel_rfl
theorem behind_ascii {k : Nat} (h : k < 26) : ∀ b ∈ behindAt k, b.toNat < 128 := fun b hb => by
  have h1 := List.all_eq_true.1 behind_low k (List.mem_range.2 h)
  simpa using List.all_eq_true.1 h1 b hb
theorem hasL_any (k r : Nat) (w : World) (h : k < 26) : Calls Tryd.prog 53 #[.string ⟨(behindAt k).toArray⟩, .int .i32 r] w fun e w' => e = .returned (.bool (hasL k r)) ∧ Below w.heap.size w w' :=
  hasRune_any ⟨(behindAt k).toArray⟩ r w (by simpa using behind_ascii h)
theorem hasL_105 (k : Nat) (w : World) (h : k < 26) : Calls Tryd.prog 53 #[.string ⟨(behindAt k).toArray⟩, .int .i32 105] w fun e w' => e = .returned (.bool (hasL k 105)) ∧ Below w.heap.size w w' := hasL_any k 105 w h
theorem hasL_112 (k : Nat) (w : World) (h : k < 26) : Calls Tryd.prog 53 #[.string ⟨(behindAt k).toArray⟩, .int .i32 112] w fun e w' => e = .returned (.bool (hasL k 112)) ∧ Below w.heap.size w w' := hasL_any k 112 w h
theorem hasL_100 (k : Nat) (w : World) (h : k < 26) : Calls Tryd.prog 53 #[.string ⟨(behindAt k).toArray⟩, .int .i32 100] w fun e w' => e = .returned (.bool (hasL k 100)) ∧ Below w.heap.size w w' := hasL_any k 100 w h
theorem hasL_116 (k : Nat) (w : World) (h : k < 26) : Calls Tryd.prog 53 #[.string ⟨(behindAt k).toArray⟩, .int .i32 116] w fun e w' => e = .returned (.bool (hasL k 116)) ∧ Below w.heap.size w w' := hasL_any k 116 w h
theorem hasL_110 (k : Nat) (w : World) (h : k < 26) : Calls Tryd.prog 53 #[.string ⟨(behindAt k).toArray⟩, .int .i32 110] w fun e w' => e = .returned (.bool (hasL k 110)) ∧ Below w.heap.size w w' := hasL_any k 110 w h
theorem hasL_117 (k : Nat) (w : World) (h : k < 26) : Calls Tryd.prog 53 #[.string ⟨(behindAt k).toArray⟩, .int .i32 117] w fun e w' => e = .returned (.bool (hasL k 117)) ∧ Below w.heap.size w w' := hasL_any k 117 w h
set_option maxHeartbeats 400000 in
theorem at_1 (b : Nat) (w : World) : Calls Tryd.prog 37 #[.pointer (some ⟨b, 0, none⟩), .int .i64 1] w fun e w' => e = .returned (.pointer (some ⟨b, 1, none⟩)) ∧ w' = w := by
  go_enter Tryd.func37, Tryd.ntmps37
  go_wp2
  go_ret
  exact ⟨rfl, rfl⟩
set_option maxHeartbeats 400000 in
theorem at_2 (b : Nat) (w : World) : Calls Tryd.prog 37 #[.pointer (some ⟨b, 0, none⟩), .int .i64 2] w fun e w' => e = .returned (.pointer (some ⟨b, 2, none⟩)) ∧ w' = w := by
  go_enter Tryd.func37, Tryd.ntmps37
  go_wp2
  go_ret
  exact ⟨rfl, rfl⟩
set_option maxHeartbeats 400000 in
theorem at_3 (b : Nat) (w : World) : Calls Tryd.prog 37 #[.pointer (some ⟨b, 0, none⟩), .int .i64 3] w fun e w' => e = .returned (.pointer (some ⟨b, 3, none⟩)) ∧ w' = w := by
  go_enter Tryd.func37, Tryd.ntmps37
  go_wp2
  go_ret
  exact ⟨rfl, rfl⟩
set_option maxHeartbeats 400000 in
theorem at_4 (b : Nat) (w : World) : Calls Tryd.prog 37 #[.pointer (some ⟨b, 0, none⟩), .int .i64 4] w fun e w' => e = .returned (.pointer (some ⟨b, 4, none⟩)) ∧ w' = w := by
  go_enter Tryd.func37, Tryd.ntmps37
  go_wp2
  go_ret
  exact ⟨rfl, rfl⟩
set_option maxHeartbeats 400000 in
theorem at_5 (b : Nat) (w : World) : Calls Tryd.prog 37 #[.pointer (some ⟨b, 0, none⟩), .int .i64 5] w fun e w' => e = .returned (.pointer (some ⟨b, 5, none⟩)) ∧ w' = w := by
  go_enter Tryd.func37, Tryd.ntmps37
  go_wp2
  go_ret
  exact ⟨rfl, rfl⟩
/-- the world in verbs.right's loop -/
structure InRight (w0 : World) (b1 b3 it : Nat) (cs fs : Array Value) (pos : Nat) (wr : World) : Prop where
  row1 : wr.heap[b1]? = some (.cells cs 27 (0, 0))
  row3 : wr.heap[b3]? = some (.cells fs 44 (0, 0))
  iter : wr.heap[it]? = some (.stringIter letters pos)
  below : Below w0.heap.size w0 wr
  new : w0.heap.size ≤ it
  ne1 : b1 ≠ it
  ne3 : b3 ≠ it
theorem lt_of_heap {w : World} {b : Nat} {o : Obj} (h : w.heap[b]? = some o) : b < w.heap.size := (Array.getElem?_eq_some_iff.1 h).1
theorem InRight.on {w0 : World} {b1 b3 it : Nat} {cs fs : Array Value} {pos : Nat} {wr w' : World} (h : InRight w0 b1 b3 it cs fs pos wr) (hb : Below wr.heap.size wr w') : InRight w0 b1 b3 it cs fs pos w' :=
  ⟨(hb.block _ (lt_of_heap h.row1)).trans h.row1, (hb.block _ (lt_of_heap h.row3)).trans h.row3, (hb.block _ (lt_of_heap h.iter)).trans h.iter, h.below.trans (hb.mono h.below.size), h.new, h.ne1, h.ne3⟩
theorem InRight.moved {w0 : World} {b1 b3 it : Nat} {cs fs : Array Value} {pos : Nat} {wr : World} (h : InRight w0 b1 b3 it cs fs pos wr) (p : Nat) : InRight w0 b1 b3 it cs fs p (wr.iterAt it letters p) :=
  ⟨(Lib.iterAt_other _ _ _ _ _ h.ne1).trans h.row1, (Lib.iterAt_other _ _ _ _ _ h.ne3).trans h.row3, Lib.iterAt_heap _ _ _ _ _ h.iter, Lib.below_iterAt h.below h.new _ _, h.new, h.ne1, h.ne3⟩

theorem below_after {w w1 : World} {o : Obj} (hb : Below (w.alloc o).heap.size (w.alloc o) w1) : Below w.heap.size w w1 ∧ w.heap.size < w1.heap.size ∧ w1.heap[w.heap.size]? = some o := by
  have hs : w.heap.size < (w.alloc o).heap.size := by simp
  exact ⟨((Below.refl _ _).alloc (Nat.le_refl _) _).trans (hb.mono (Nat.le_of_lt hs)), Nat.lt_of_lt_of_le hs hb.size, (hb.block _ hs).trans (heap_alloc_last w o)⟩
set_option maxHeartbeats 400000 in
theorem right_no (c : CmdN) (b : Value) (w : World) (h : c.kind < 1 ∨ 25 < c.kind) : Calls Tryd.prog 35 #[.agg (c.cells b)] w fun e w' => e = .returned (.bool false) ∧ Below w.heap.size w w' := by
  obtain ⟨kind, id, pri, delay, ttr, number, tube⟩ := c
  simp only [CmdN.cells]
  go_enter Tryd.func35, Tryd.ntmps35
  go_wp2_with fail
  refine (formOf_no _ _ h).mono ?_
  rintro e w1 ⟨rfl, hb⟩
  go_wp2_with fail
  go_ret
  refine ⟨rfl, ?_⟩
  obtain ⟨hb2, hz, -⟩ := below_after hb
  repeat (first | exact hb2 | refine Below.setCell ?_ (by first | omega | (simp; omega)) _ | refine Below.alloc ?_ (by first | omega | (simp; omega)) _)

set_option maxHeartbeats 1000000 in
theorem right_yes (k : Nat) (c : CmdN) (b : Value) (w : World) (hk : c.kind = k) (h1 : 1 ≤ k) (h2 : k ≤ 25) (ht : c.tube.size ≤ 9223372036854775807) :
    Calls Tryd.prog 35 #[.agg (c.cells b)] w fun e w' => e = .returned (.bool (rightK k c)) ∧ Below w.heap.size w w' := by
  obtain ⟨kind, id, pri, delay, ttr, number, tube⟩ := c
  simp only at hk ht
  subst hk
  simp only [CmdN.cells]
  go_enter Tryd.func35, Tryd.ntmps35
  go_wp2_with fail
  refine (formOf_yes _ _ h1 h2).mono ?_
  rintro e w1 ⟨rfl, hb⟩
  obtain ⟨hb2, hz, hr1⟩ := below_after hb
  clear hb
  go_wp2_with fail
  obtain ⟨b3, hb3⟩ : ∃ b3, b3 = w1.heap.size := ⟨_, rfl⟩
  obtain ⟨wr0, hwr⟩ : ∃ wr0, wr0 = (w1.alloc (.cells #[.string ⟨(verbAt k).toArray⟩, .string ⟨(behindAt k).toArray⟩] 44)).iter letters 0 := ⟨_, rfl⟩
  have hin : InRight w w.heap.size b3 (b3 + 1) (CmdN.cells ⟨k, id, pri, delay, ttr, number, tube⟩ b) #[.string ⟨(verbAt k).toArray⟩, .string ⟨(behindAt k).toArray⟩] 0 wr0 := by
    subst hb3 hwr
    refine ⟨?_, ?_, ?_, ?_, by omega, by omega, by omega⟩
    · rw [World.iter, Below.heap_alloc _ _ _ (by simp; omega), Below.heap_alloc _ _ _ hz]; exact hr1
    · rw [World.iter, Below.heap_alloc _ _ _ (by simp)]; exact heap_alloc_last _ _
    · have := World.iter_heap (w1.alloc (.cells #[.string ⟨(verbAt k).toArray⟩, .string ⟨(behindAt k).toArray⟩] 44)) letters 0
      simpa using this
    · exact ((hb2.alloc (by omega) _).alloc (by simp; omega) _)
  have HB3 := Lib.hid hb3
  have HIN := Lib.hid hin
  rw [show ({ data := #[105, 112, 100, 116, 110, 117] } : ByteArray) = letters from rfl, ← hwr, ← hb3]
  clear hwr hb3 hin hr1
  have hk26 : k < 26 := by omega
  go_loopw [6] (fun _ wr => ∃ pos, pos ≤ 6 ∧ InRight w w.heap.size b3 (b3 + 1) (CmdN.cells ⟨k, id, pri, delay, ttr, number, tube⟩ b) #[.string ⟨(verbAt k).toArray⟩, .string ⟨(behindAt k).toArray⟩] pos wr ∧ Hid (okTo k ⟨k, id, pri, delay, ttr, number, tube⟩ pos = true)) (fun _ wr => 6 - wr.iterPos (b3 + 1))
  case atStart => exact ⟨0, by omega, HIN.out, rfl⟩
  case round =>
    obtain ⟨pos, hle, h, hall⟩ := hrel
    clear HIN HB3
    by_cases hp : pos < 6
    · have hpos : pos = 0 ∨ pos = 1 ∨ pos = 2 ∨ pos = 3 ∨ pos = 4 ∨ pos = 5 := by omega
      rcases hpos with rfl | rfl | rfl | rfl | rfl | rfl
      · have hnx : ∀ ty, (Instr.next (.pointer (some ⟨b3 + 1, 0, none⟩)) true ty).run Tryd.prog wr = .ok (.tuple #[.bool true, .int .i64 0, .int .i32 105]) (wr.iterAt (b3 + 1) letters 1) := fun ty => Lib.run_next_ascii_at wr (b3 + 1) letters 0 ty h.iter (by decide) (by decide)
        have h1 := h.moved 1
        have hb0 : (wr.iterAt (b3 + 1) letters 1).cell? ⟨b3, 1, none⟩ = some (.string ⟨(behindAt k).toArray⟩) := (cell_of_row _ _ 1 _ 44 (0, 0) h1.row3).trans rfl
        have HW := Lib.hid (show wr.iterPos (b3 + 1) = 0 by simp [World.iterPos, h.iter])
        clear h hp
        go_wp2_with fail
        refine (fieldOf_105 _).mono ?_
        rintro e w' ⟨rfl, rfl⟩
        go_wp2_with fail
        refine (hasL_105 k _ hk26).mono ?_
        rintro e w2 ⟨rfl, hb⟩
        have h2 := h1.on hb
        have hx : w2.cell? ⟨w.heap.size, 1, none⟩ = some (.int .i64 id) := (cell_of_row _ _ 1 _ 27 (0, 0) h2.row1).trans rfl
        have HP := Lib.hid (show w2.iterPos (b3 + 1) = 1 by simp [World.iterPos, h2.iter])
        clear hb hb0 hnx h1
        by_cases hh : hasL k 105 = true
        · go_wp2_with (first | (go_at_call 37; refine (at_1 _ _).mono ?_; rintro e w' ⟨rfl, rfl⟩) | (go_at_call 48; refine (most_any _ _).mono ?_; rintro e w' ⟨rfl, rfl⟩))
          · have g0 : 0 ≤ id := by assumption
            have g1 : id ≤ mostOf 1 := by assumption
            go_roundw
            case rel => exact ⟨1, by omega, h2, okTo_step hall.out (num_in hh g0 g1)⟩
            case measure => rw [HP.out, HW.out]; omega
          · have g1 : mostOf 1 < id := by assumption
            go_ret
            exact ⟨ret_bool (right_false 0 (by omega) (num_out hh (.inr g1))).symm, h2.below⟩
          · have g1 : id < 0 := by assumption
            go_ret
            exact ⟨ret_bool (right_false 0 (by omega) (num_out hh (.inl g1))).symm, h2.below⟩
        · have hh' : hasL k 105 = false := by simpa using hh
          go_wp2_with (first | (go_at_call 37; refine (at_1 _ _).mono ?_; rintro e w' ⟨rfl, rfl⟩) | (go_at_call 48; refine (most_any _ _).mono ?_; rintro e w' ⟨rfl, rfl⟩))
          · have g1 : (id != 0) = true := by assumption
            go_ret
            exact ⟨ret_bool (right_false 0 (by omega) (num_non hh' g1)).symm, h2.below⟩
          · have g1 : (id != 0) = false := by assumption
            go_roundw
            case rel => exact ⟨1, by omega, h2, okTo_step hall.out (num_zero hh' g1)⟩
            case measure => rw [HP.out, HW.out]; omega
      · have hnx : ∀ ty, (Instr.next (.pointer (some ⟨b3 + 1, 0, none⟩)) true ty).run Tryd.prog wr = .ok (.tuple #[.bool true, .int .i64 1, .int .i32 112]) (wr.iterAt (b3 + 1) letters 2) := fun ty => Lib.run_next_ascii_at wr (b3 + 1) letters 1 ty h.iter (by decide) (by decide)
        have h1 := h.moved 2
        have hb0 : (wr.iterAt (b3 + 1) letters 2).cell? ⟨b3, 1, none⟩ = some (.string ⟨(behindAt k).toArray⟩) := (cell_of_row _ _ 1 _ 44 (0, 0) h1.row3).trans rfl
        have HW := Lib.hid (show wr.iterPos (b3 + 1) = 1 by simp [World.iterPos, h.iter])
        clear h hp
        go_wp2_with fail
        refine (fieldOf_112 _).mono ?_
        rintro e w' ⟨rfl, rfl⟩
        go_wp2_with fail
        refine (hasL_112 k _ hk26).mono ?_
        rintro e w2 ⟨rfl, hb⟩
        have h2 := h1.on hb
        have hx : w2.cell? ⟨w.heap.size, 2, none⟩ = some (.int .i64 pri) := (cell_of_row _ _ 2 _ 27 (0, 0) h2.row1).trans rfl
        have HP := Lib.hid (show w2.iterPos (b3 + 1) = 2 by simp [World.iterPos, h2.iter])
        clear hb hb0 hnx h1
        by_cases hh : hasL k 112 = true
        · go_wp2_with (first | (go_at_call 37; refine (at_2 _ _).mono ?_; rintro e w' ⟨rfl, rfl⟩) | (go_at_call 48; refine (most_any _ _).mono ?_; rintro e w' ⟨rfl, rfl⟩))
          · have g0 : 0 ≤ pri := by assumption
            have g1 : pri ≤ mostOf 2 := by assumption
            go_roundw
            case rel => exact ⟨2, by omega, h2, okTo_step hall.out (num_in hh g0 g1)⟩
            case measure => rw [HP.out, HW.out]; omega
          · have g1 : mostOf 2 < pri := by assumption
            go_ret
            exact ⟨ret_bool (right_false 1 (by omega) (num_out hh (.inr g1))).symm, h2.below⟩
          · have g1 : pri < 0 := by assumption
            go_ret
            exact ⟨ret_bool (right_false 1 (by omega) (num_out hh (.inl g1))).symm, h2.below⟩
        · have hh' : hasL k 112 = false := by simpa using hh
          go_wp2_with (first | (go_at_call 37; refine (at_2 _ _).mono ?_; rintro e w' ⟨rfl, rfl⟩) | (go_at_call 48; refine (most_any _ _).mono ?_; rintro e w' ⟨rfl, rfl⟩))
          · have g1 : (pri != 0) = true := by assumption
            go_ret
            exact ⟨ret_bool (right_false 1 (by omega) (num_non hh' g1)).symm, h2.below⟩
          · have g1 : (pri != 0) = false := by assumption
            go_roundw
            case rel => exact ⟨2, by omega, h2, okTo_step hall.out (num_zero hh' g1)⟩
            case measure => rw [HP.out, HW.out]; omega
      · have hnx : ∀ ty, (Instr.next (.pointer (some ⟨b3 + 1, 0, none⟩)) true ty).run Tryd.prog wr = .ok (.tuple #[.bool true, .int .i64 2, .int .i32 100]) (wr.iterAt (b3 + 1) letters 3) := fun ty => Lib.run_next_ascii_at wr (b3 + 1) letters 2 ty h.iter (by decide) (by decide)
        have h1 := h.moved 3
        have hb0 : (wr.iterAt (b3 + 1) letters 3).cell? ⟨b3, 1, none⟩ = some (.string ⟨(behindAt k).toArray⟩) := (cell_of_row _ _ 1 _ 44 (0, 0) h1.row3).trans rfl
        have HW := Lib.hid (show wr.iterPos (b3 + 1) = 2 by simp [World.iterPos, h.iter])
        clear h hp
        go_wp2_with fail
        refine (fieldOf_100 _).mono ?_
        rintro e w' ⟨rfl, rfl⟩
        go_wp2_with fail
        refine (hasL_100 k _ hk26).mono ?_
        rintro e w2 ⟨rfl, hb⟩
        have h2 := h1.on hb
        have hx : w2.cell? ⟨w.heap.size, 3, none⟩ = some (.int .i64 delay) := (cell_of_row _ _ 3 _ 27 (0, 0) h2.row1).trans rfl
        have HP := Lib.hid (show w2.iterPos (b3 + 1) = 3 by simp [World.iterPos, h2.iter])
        clear hb hb0 hnx h1
        by_cases hh : hasL k 100 = true
        · go_wp2_with (first | (go_at_call 37; refine (at_3 _ _).mono ?_; rintro e w' ⟨rfl, rfl⟩) | (go_at_call 48; refine (most_any _ _).mono ?_; rintro e w' ⟨rfl, rfl⟩))
          · have g0 : 0 ≤ delay := by assumption
            have g1 : delay ≤ mostOf 3 := by assumption
            go_roundw
            case rel => exact ⟨3, by omega, h2, okTo_step hall.out (num_in hh g0 g1)⟩
            case measure => rw [HP.out, HW.out]; omega
          · have g1 : mostOf 3 < delay := by assumption
            go_ret
            exact ⟨ret_bool (right_false 2 (by omega) (num_out hh (.inr g1))).symm, h2.below⟩
          · have g1 : delay < 0 := by assumption
            go_ret
            exact ⟨ret_bool (right_false 2 (by omega) (num_out hh (.inl g1))).symm, h2.below⟩
        · have hh' : hasL k 100 = false := by simpa using hh
          go_wp2_with (first | (go_at_call 37; refine (at_3 _ _).mono ?_; rintro e w' ⟨rfl, rfl⟩) | (go_at_call 48; refine (most_any _ _).mono ?_; rintro e w' ⟨rfl, rfl⟩))
          · have g1 : (delay != 0) = true := by assumption
            go_ret
            exact ⟨ret_bool (right_false 2 (by omega) (num_non hh' g1)).symm, h2.below⟩
          · have g1 : (delay != 0) = false := by assumption
            go_roundw
            case rel => exact ⟨3, by omega, h2, okTo_step hall.out (num_zero hh' g1)⟩
            case measure => rw [HP.out, HW.out]; omega
      · have hnx : ∀ ty, (Instr.next (.pointer (some ⟨b3 + 1, 0, none⟩)) true ty).run Tryd.prog wr = .ok (.tuple #[.bool true, .int .i64 3, .int .i32 116]) (wr.iterAt (b3 + 1) letters 4) := fun ty => Lib.run_next_ascii_at wr (b3 + 1) letters 3 ty h.iter (by decide) (by decide)
        have h1 := h.moved 4
        have hb0 : (wr.iterAt (b3 + 1) letters 4).cell? ⟨b3, 1, none⟩ = some (.string ⟨(behindAt k).toArray⟩) := (cell_of_row _ _ 1 _ 44 (0, 0) h1.row3).trans rfl
        have HW := Lib.hid (show wr.iterPos (b3 + 1) = 3 by simp [World.iterPos, h.iter])
        clear h hp
        go_wp2_with fail
        refine (fieldOf_116 _).mono ?_
        rintro e w' ⟨rfl, rfl⟩
        go_wp2_with fail
        refine (hasL_116 k _ hk26).mono ?_
        rintro e w2 ⟨rfl, hb⟩
        have h2 := h1.on hb
        have hx : w2.cell? ⟨w.heap.size, 4, none⟩ = some (.int .i64 ttr) := (cell_of_row _ _ 4 _ 27 (0, 0) h2.row1).trans rfl
        have HP := Lib.hid (show w2.iterPos (b3 + 1) = 4 by simp [World.iterPos, h2.iter])
        clear hb hb0 hnx h1
        by_cases hh : hasL k 116 = true
        · go_wp2_with (first | (go_at_call 37; refine (at_4 _ _).mono ?_; rintro e w' ⟨rfl, rfl⟩) | (go_at_call 48; refine (most_any _ _).mono ?_; rintro e w' ⟨rfl, rfl⟩))
          · have g0 : 0 ≤ ttr := by assumption
            have g1 : ttr ≤ mostOf 4 := by assumption
            go_roundw
            case rel => exact ⟨4, by omega, h2, okTo_step hall.out (num_in hh g0 g1)⟩
            case measure => rw [HP.out, HW.out]; omega
          · have g1 : mostOf 4 < ttr := by assumption
            go_ret
            exact ⟨ret_bool (right_false 3 (by omega) (num_out hh (.inr g1))).symm, h2.below⟩
          · have g1 : ttr < 0 := by assumption
            go_ret
            exact ⟨ret_bool (right_false 3 (by omega) (num_out hh (.inl g1))).symm, h2.below⟩
        · have hh' : hasL k 116 = false := by simpa using hh
          go_wp2_with (first | (go_at_call 37; refine (at_4 _ _).mono ?_; rintro e w' ⟨rfl, rfl⟩) | (go_at_call 48; refine (most_any _ _).mono ?_; rintro e w' ⟨rfl, rfl⟩))
          · have g1 : (ttr != 0) = true := by assumption
            go_ret
            exact ⟨ret_bool (right_false 3 (by omega) (num_non hh' g1)).symm, h2.below⟩
          · have g1 : (ttr != 0) = false := by assumption
            go_roundw
            case rel => exact ⟨4, by omega, h2, okTo_step hall.out (num_zero hh' g1)⟩
            case measure => rw [HP.out, HW.out]; omega
      · have hnx : ∀ ty, (Instr.next (.pointer (some ⟨b3 + 1, 0, none⟩)) true ty).run Tryd.prog wr = .ok (.tuple #[.bool true, .int .i64 4, .int .i32 110]) (wr.iterAt (b3 + 1) letters 5) := fun ty => Lib.run_next_ascii_at wr (b3 + 1) letters 4 ty h.iter (by decide) (by decide)
        have h1 := h.moved 5
        have hb0 : (wr.iterAt (b3 + 1) letters 5).cell? ⟨b3, 1, none⟩ = some (.string ⟨(behindAt k).toArray⟩) := (cell_of_row _ _ 1 _ 44 (0, 0) h1.row3).trans rfl
        have HW := Lib.hid (show wr.iterPos (b3 + 1) = 4 by simp [World.iterPos, h.iter])
        clear h hp
        go_wp2_with fail
        refine (fieldOf_110 _).mono ?_
        rintro e w' ⟨rfl, rfl⟩
        go_wp2_with fail
        refine (hasL_110 k _ hk26).mono ?_
        rintro e w2 ⟨rfl, hb⟩
        have h2 := h1.on hb
        have hx : w2.cell? ⟨w.heap.size, 5, none⟩ = some (.int .i64 number) := (cell_of_row _ _ 5 _ 27 (0, 0) h2.row1).trans rfl
        have HP := Lib.hid (show w2.iterPos (b3 + 1) = 5 by simp [World.iterPos, h2.iter])
        clear hb hb0 hnx h1
        by_cases hh : hasL k 110 = true
        · go_wp2_with (first | (go_at_call 37; refine (at_5 _ _).mono ?_; rintro e w' ⟨rfl, rfl⟩) | (go_at_call 48; refine (most_any _ _).mono ?_; rintro e w' ⟨rfl, rfl⟩))
          · have g0 : 0 ≤ number := by assumption
            have g1 : number ≤ mostOf 5 := by assumption
            go_roundw
            case rel => exact ⟨5, by omega, h2, okTo_step hall.out (num_in hh g0 g1)⟩
            case measure => rw [HP.out, HW.out]; omega
          · have g1 : mostOf 5 < number := by assumption
            go_ret
            exact ⟨ret_bool (right_false 4 (by omega) (num_out hh (.inr g1))).symm, h2.below⟩
          · have g1 : number < 0 := by assumption
            go_ret
            exact ⟨ret_bool (right_false 4 (by omega) (num_out hh (.inl g1))).symm, h2.below⟩
        · have hh' : hasL k 110 = false := by simpa using hh
          go_wp2_with (first | (go_at_call 37; refine (at_5 _ _).mono ?_; rintro e w' ⟨rfl, rfl⟩) | (go_at_call 48; refine (most_any _ _).mono ?_; rintro e w' ⟨rfl, rfl⟩))
          · have g1 : (number != 0) = true := by assumption
            go_ret
            exact ⟨ret_bool (right_false 4 (by omega) (num_non hh' g1)).symm, h2.below⟩
          · have g1 : (number != 0) = false := by assumption
            go_roundw
            case rel => exact ⟨5, by omega, h2, okTo_step hall.out (num_zero hh' g1)⟩
            case measure => rw [HP.out, HW.out]; omega
      · have hnx : ∀ ty, (Instr.next (.pointer (some ⟨b3 + 1, 0, none⟩)) true ty).run Tryd.prog wr = .ok (.tuple #[.bool true, .int .i64 5, .int .i32 117]) (wr.iterAt (b3 + 1) letters 6) := fun ty => Lib.run_next_ascii_at wr (b3 + 1) letters 5 ty h.iter (by decide) (by decide)
        have h1 := h.moved 6
        have hb0 : (wr.iterAt (b3 + 1) letters 6).cell? ⟨b3, 1, none⟩ = some (.string ⟨(behindAt k).toArray⟩) := (cell_of_row _ _ 1 _ 44 (0, 0) h1.row3).trans rfl
        have HW := Lib.hid (show wr.iterPos (b3 + 1) = 5 by simp [World.iterPos, h.iter])
        clear h hp
        go_wp2_with fail
        refine (fieldOf_117 _).mono ?_
        rintro e w' ⟨rfl, rfl⟩
        go_wp2_with fail
        refine (hasL_117 k _ hk26).mono ?_
        rintro e w2 ⟨rfl, hb⟩
        have h2 := h1.on hb
        have hx : w2.cell? ⟨w.heap.size, 6, none⟩ = some (.string tube) := (cell_of_row _ _ 6 _ 27 (0, 0) h2.row1).trans rfl
        have HP := Lib.hid (show w2.iterPos (b3 + 1) = 6 by simp [World.iterPos, h2.iter])
        clear hb hb0 hnx h1
        by_cases hh : hasL k 117 = true
        · by_cases hv : validB tube.data.toList = true
          · go_wp2_with (go_at_call 46; refine (valid_any _ _ ht).mono ?_; rintro e w' ⟨rfl, rfl⟩)
            go_roundw
            case rel => exact ⟨6, by omega, h2, okTo_step hall.out (show tubeOk _ _ = true by simp [tubeOk, hh, hv])⟩
            case measure => rw [HP.out, HW.out]; omega
          · have hv' : validB tube.data.toList = false := by simpa using hv
            go_wp2_with (go_at_call 46; refine (valid_any _ _ ht).mono ?_; rintro e w' ⟨rfl, rfl⟩)
            go_ret
            exact ⟨ret_bool (right_false 5 (by omega) (show tubeOk _ _ = false by simp [tubeOk, hh, hv'])).symm, h2.below⟩
        · have hh' : hasL k 117 = false := by simpa using hh
          go_wp2_with fail
          · have g1 : (!tube.toList.isEmpty) = true := by assumption
            go_ret
            exact ⟨ret_bool (right_false 5 (by omega) (show tubeOk _ _ = false by rw [ByteArray.toList_eq] at g1; simpa [tubeOk, hh'] using g1)).symm, h2.below⟩
          · have g1 : (!tube.toList.isEmpty) = false := by assumption
            go_roundw
            case rel => exact ⟨6, by omega, h2, okTo_step hall.out (show tubeOk _ _ = true by rw [ByteArray.toList_eq] at g1; simpa [tubeOk, hh'] using g1)⟩
            case measure => rw [HP.out, HW.out]; omega
    · obtain rfl : pos = 6 := by omega
      have hnx : ∀ ty, (Instr.next (.pointer (some ⟨b3 + 1, 0, none⟩)) true ty).run Tryd.prog wr = .ok (.tuple #[.bool false]) wr := fun ty => Lib.run_next_end_at wr (b3 + 1) letters 6 ty h.iter (by decide)
      have hx0 : wr.cell? ⟨w.heap.size, 0, none⟩ = some (.int .i64 k) := (cell_of_row _ _ 0 _ 27 (0, 0) h.row1).trans rfl
      have hx4 : wr.cell? ⟨w.heap.size, 4, none⟩ = some (.int .i64 ttr) := (cell_of_row _ _ 4 _ 27 (0, 0) h.row1).trans rfl
      go_wp2_with fail
      · have g1 : (k : Int) = 1 := by assumption
        have hall' : okTo k ⟨k, id, pri, delay, ttr, number, tube⟩ 6 = true := hall.out
        go_ret
        refine ⟨ret_bool ?_, h.below⟩
        rw [rightK, hall', show (k == 1) = true by simp; omega]; simp
      · have g1 : ¬ (k : Int) = 1 := by assumption
        have hall' : okTo k ⟨k, id, pri, delay, ttr, number, tube⟩ 6 = true := hall.out
        go_ret
        refine ⟨ret_bool ?_, h.below⟩
        rw [rightK, hall', show (k == 1) = false by simp; omega]; simp
end Go.Proofs.YtlhkelgkkfnfoaaDoor
