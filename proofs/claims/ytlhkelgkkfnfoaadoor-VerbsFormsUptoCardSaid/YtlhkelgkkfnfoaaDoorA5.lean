/- verbs.Check: whether a command may be done. -/
import Derived.Test.YtlhkelgkkfnfoaaDoorA4
namespace Go.Proofs.YtlhkelgkkfnfoaaDoor
open Go.RowKit

/-- may a command's fields be, but for a put's body and size? -/
def rightB (c : CmdN) : Bool := decide (1 ≤ c.kind ∧ c.kind ≤ 25) && rightK c.kind.toNat c
theorem right_any (c : CmdN) (b : Value) (w : World) (ht : c.tube.size ≤ 9223372036854775807) :
    Calls Tryd.prog 35 #[.agg (c.cells b)] w fun e w' => e = .returned (.bool (rightB c)) ∧ Below w.heap.size w w' := by
  by_cases h : 1 ≤ c.kind ∧ c.kind ≤ 25
  · have e : rightB c = rightK c.kind.toNat c := by rw [rightB, decide_eq_true h]; rfl
    rw [e]
    exact right_yes c.kind.toNat c b w (by omega) (by omega) (by omega) ht
  · have e : rightB c = false := by rw [rightB, decide_eq_false h]; rfl
    rw [e]
    exact right_no c b w (by omega)
/-- the size that a command's body must have -/
def sizeOf (c : CmdN) : Int := if c.kind = 1 then c.number else 0
/-- may a command with a body of so many bytes be done? -/
def checkB (c : CmdN) (n : Nat) : Bool := rightB c && decide (sizeOf c ≤ 65535) && decide ((n : Int) = sizeOf c)

/-- the number of the answer: OK, or ErrVerbCmd -/
def errB (b : Bool) : Int := if b then 0 else 72
theorem ret_int {k : IntKind} {a b : Int} (h : a = b) : Ending.returned (.int k a) = .returned (.int k b) := by rw [h]

set_option maxHeartbeats 400000 in
theorem check_any (c : CmdN) (a : Option Addr) (n m : Nat) (w : World) (ht : c.tube.size ≤ 9223372036854775807) :
    Calls Tryd.prog 20 #[.agg (c.cells (.slice a n m))] w fun e w' => e = .returned (.int .i64 (errB (checkB c n))) ∧ Below w.heap.size w w' := by
  have HR := Lib.hid (right_any c (.slice a n m) (w.alloc (.cells (c.cells (.slice a n m)) 27)) ht)
  obtain ⟨r, hr⟩ : ∃ r, r = rightB c := ⟨_, rfl⟩
  have HC : ∀ q : Int, q = sizeOf c → checkB c n = (r && decide (q ≤ 65535) && decide ((n : Int) = q)) := fun q hq => by rw [checkB, hr, hq]
  rw [← hr] at HR
  have HC' := Lib.hid HC
  clear hr HC
  obtain ⟨kind, id, pri, delay, ttr, number, tube⟩ := c
  simp only [CmdN.cells] at HR ⊢
  by_cases hk : (kind == 1) = true
  · have hs := HC'.out number (by simp [sizeOf]; intro h; simp at hk; omega)
    have HS := Lib.hid hs
    clear hs HC'
    go_enter Tryd.func20, Tryd.ntmps20
    go_wp2_with fail
    refine HR.out.mono ?_
    rintro e w1 ⟨rfl, hb⟩
    obtain ⟨hb2, hz, hr1⟩ := below_after hb
    have hx : w1.cell? ⟨w.heap.size, 7, none⟩ = some (.slice a n m) := (cell_of_row _ _ 7 _ 27 (0, 0) hr1).trans rfl
    clear hb hr1
    cases r
    · go_wp2_with fail
      go_ret
      exact ⟨ret_int (by rw [HS.out]; simp [errB]), hb2⟩
    · go_wp2_with fail
      · have g : 65535 < number ∨ ((n : Int) != number) = true := by assumption
        go_ret
        have hf : (true && decide (number ≤ 65535) && decide ((n : Int) = number)) = false := by simp at g ⊢; omega
        exact ⟨ret_int (by rw [HS.out, hf]; rfl), hb2⟩
      · have g : number ≤ 65535 ∧ ((n : Int) != number) = false := by assumption
        go_ret
        exact ⟨ret_int (by rw [HS.out]; obtain ⟨g1, g2⟩ := g; simp at g2; simp [errB, g1, g2]), hb2⟩
      · have g : 65535 < number := by assumption
        go_ret
        exact ⟨ret_int (by rw [HS.out]; simp [errB]; omega), hb2⟩
  · have hk' : (kind == 1) = false := by simpa using hk
    have hs := HC'.out 0 (by simp [sizeOf]; intro h; simp [h] at hk)
    have HS := Lib.hid hs
    clear hs HC' hk
    go_enter Tryd.func20, Tryd.ntmps20
    go_wp2_with fail
    refine HR.out.mono ?_
    rintro e w1 ⟨rfl, hb⟩
    obtain ⟨hb2, hz, hr1⟩ := below_after hb
    have hx : w1.cell? ⟨w.heap.size, 7, none⟩ = some (.slice a n m) := (cell_of_row _ _ 7 _ 27 (0, 0) hr1).trans rfl
    clear hb hr1
    cases r
    · go_wp2_with fail
      go_ret
      exact ⟨ret_int (by rw [HS.out]; simp [errB]), hb2⟩
    · go_wp2_with fail
      · have g : ((n : Int) != 0) = true := by assumption
        go_ret
        exact ⟨ret_int (by rw [HS.out]; simp at g; simp [errB, g]), hb2⟩
      · have g : ((n : Int) != 0) = false := by assumption
        go_ret
        exact ⟨ret_int (by rw [HS.out]; simp at g; simp [errB, g]), hb2⟩
end Go.Proofs.YtlhkelgkkfnfoaaDoor
