/- D: structs and slices that are written out. -/
import Derived.Test.YtfdplefijefeiaaGreatDoorZm
namespace Go.Dx
open Go

theorem foldl_put : ∀ (vs : List Value) (k : Nat) (cells : List Value) (off : Nat), off + k + vs.length ≤ cells.length →
    ((vs.zipIdx k).foldl (fun (cs : Array Value) (x : Value × Nat) => cs.setIfInBounds (off + x.2) x.1) cells.toArray).toList = cells.take (off + k) ++ vs ++ cells.drop (off + k + vs.length)
  | [], k, cells, off, h => by simp
  | v :: vs, k, cells, off, h => by
    rw [List.zipIdx_cons, List.foldl_cons]
    simp only [List.setIfInBounds_toArray]
    simp only [List.length_cons] at h
    rw [foldl_put vs (k + 1) (cells.set (off + k) v) off (by simp; omega)]
    rw [show off + (k + 1) = off + k + 1 by omega, List.length_cons]
    have h1 : (cells.set (off + k) v).take (off + k + 1) = cells.take (off + k) ++ [v] := by
      rw [List.take_succ_eq_append_getElem (by simp; omega)]
      simp [List.take_set_of_le]
    have h2 : (cells.set (off + k) v).drop (off + k + 1 + vs.length) = cells.drop (off + k + (vs.length + 1)) := by
      rw [List.drop_set_of_lt (by omega)]
      congr 1
      omega
    rw [h1, h2]
    simp
theorem fill_ok {e : Env} {place : Nat → Option (Nat × Nat)} : ∀ {ps : List (Nat × Nat × DV)} {parts : List (Nat × Value)} {z cs : List DV} {rz : List Value}, vals e z = some rz → fillD z ps = some cs →
    ps.length = parts.length → (∀ (j : Nat) (off n : Nat) (d : DV), ps[j]? = some (off, n, d) → ∃ i v, parts[j]? = some (i, v) ∧ place i = some (off, n) ∧ val e d = some v) → ∃ rs, Instr.fill place rz.toArray parts = some rs.toArray ∧ vals e cs = some rs
  | [], parts, z, cs, rz, hz, hf, hl, _ => by
    have : parts = [] := List.length_eq_zero_iff.1 hl.symm
    subst this
    simp only [fillD, Option.some.injEq] at hf
    subst hf
    exact ⟨rz, rfl, hz⟩
  | (off, n, d) :: ps, parts, z, cs, rz, hz, hf, hl, hp => by
    obtain ⟨i, v, h1, h2, h3⟩ := hp 0 off n d rfl
    cases parts with
    | nil => simp at hl
    | cons q parts =>
      simp only [List.getElem?_cons_zero, Option.some.injEq] at h1
      subst h1
      simp only [fillD] at hf
      split at hf
      · next hle =>
        have hcv := cells_val h3
        have hcl := vals_length hcv
        have hzl := vals_length hz
        have hvs : v.cells.size = n := by have := hle.1; rw [← hcl] at this; simpa using this
        unfold Instr.fill
        simp only [h2]
        have hcond : (decide (v.cells.size ≠ n) || decide (off + v.cells.size > rz.toArray.size)) = false := by simp [hvs]; omega
        have hput : v.cells.zipIdx.foldl (fun cs (x : Value × Nat) => cs.setIfInBounds (off + x.2) x.1) rz.toArray = (rz.take off ++ v.cells.toList ++ rz.drop (off + v.cells.toList.length)).toArray := by
          apply Array.ext'
          rw [← Array.foldl_toList, Array.toList_zipIdx]
          have := foldl_put v.cells.toList 0 rz off (by simp [hvs]; omega)
          simpa using this
        obtain ⟨rs, g1, g2⟩ := fill_ok (place := place) (vals_put off hz hcv) hf (by simpa using hl) (fun j o' n' d' hj => by simpa using hp (j + 1) o' n' d' (by simpa using hj))
        refine ⟨rs, ?_, g2⟩
        rw [if_neg (by rw [hcond]; simp)]
        rw [hput]
        exact g1
      · cases hf
end Go.Dx
