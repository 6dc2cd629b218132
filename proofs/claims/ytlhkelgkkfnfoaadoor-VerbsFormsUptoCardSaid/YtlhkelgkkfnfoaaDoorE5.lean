/- The laws' same: a command is like itself. -/
import Derived.Test.YtlhkelgkkfnfoaaDoorE4
import Derived.Lib.BufferRead
namespace Go.Proofs.YtlhkelgkkfnfoaaDoor
open Go.RowKit

set_option maxRecDepth 100000 in
set_option maxHeartbeats 2000000 in
theorem same_refl (c : CmdN) (w : World) (ht : c.tube.size ≤ 9223372036854775807) :
    Calls Tryd.prog 15 #[.agg (c.cells (.slice none 0 0)), .agg (c.cells (.slice none 0 0))] w fun e w' => e = .returned (.bool true) ∧ Below w.heap.size w w' := by
  obtain ⟨kind, id, pri, delay, ttr, number, tube⟩ := c
  simp only [CmdN.cells]
  have hcv : ∀ W, (convert 25 9 (.slice none 0 0)).run Tryd.prog W = .ok (.string ⟨#[]⟩) W := fun W => Lib.run_convert_nil_bytes W 25 9 5 0 Tryd.underlying25 Tryd.underlying5 Tryd.underlying9
  go_enter Tryd.func15, Tryd.ntmps15
  go_wp2_with fail
  go_ret
  refine ⟨?_, ?_⟩
  · rfl
  · exact two_below w _ _

theorem readF_tube (c : CmdN) (f : Int) (x : ByteArray) : (readF c f x).1.tube = c.tube ∨ (readF c f x).1.tube = x := by
  by_cases h : f = 6
  · right; simp [readF, h]
  · left
    rw [readF, if_neg h]
    simp only
    split
    · rfl
    · split
      · rfl
      · split
        · rfl
        · split <;> rfl
theorem readAll_tube : ∀ (bs : List UInt8) (ws : List ByteArray) (c c' : CmdN), readAll bs ws c = some c' → c'.tube = c.tube ∨ c'.tube ∈ ws
  | [], _, c, c', h => by rw [readAll] at h; cases h; exact .inl rfl
  | _ :: _, [], _, _, h => by rw [readAll] at h; cases h
  | b :: bs, x :: xs, c, c', h => by
    rw [readAll] at h
    split at h
    · rcases readAll_tube bs xs _ c' h with h1 | h1
      · rcases readF_tube c (fieldB b) x with h2 | h2
        · exact .inl (h1.trans h2)
        · exact .inr (by rw [h1, h2]; simp)
      · exact .inr (by simp [h1])
    · cases h
theorem ttrOne_tube (c : CmdN) : (ttrOne c).tube = c.tube := by unfold ttrOne; split <;> rfl
theorem parse_tube (s : ByteArray) (hs : s.size < 4294967281) : (parseRes s).1.tube.size ≤ 4294967281 := by
  rw [parseRes]
  split
  · show (0 : Nat) ≤ _; omega
  · split
    · show (0 : Nat) ≤ _; omega
    · split
      · show (0 : Nat) ≤ _; omega
      · rename_i c hc
        rw [ttrOne_tube]
        rcases readAll_tube _ _ _ _ hc with h | h
        · rw [h]; show (0 : Nat) ≤ _; omega
        · exact words_size s hs _ (List.mem_of_mem_drop h)
end Go.Proofs.YtlhkelgkkfnfoaaDoor
