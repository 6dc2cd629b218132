/- The reference's small functions: they compute what the program's do. -/
import Derived.Test.YtlhkelgkkfnfoaaDoorA3
import Derived.Test.YtlhkelgkkfnfoaaDoorA5
namespace Go.Proofs.YtlhkelgkkfnfoaaDoor
open Go.RowKit

/-- the reference's letters behind each verb, by kinds -/
def refForms : List (List UInt8) := [[], [112, 100, 114, 110], [116], [], [110], [105], [105], [105, 112, 100], [105, 112], [105], [116], [116], [105], [], [], [], [110], [105], [105], [116], [], [], [], [], [116, 110], []]
def refAt (k : Nat) : List UInt8 := refForms.getD k []
def verbCells : Array Value := (formTab.map fun p => Value.string ⟨p.1.toArray⟩).toArray
def refCells : Array Value := (refForms.map fun p => Value.string ⟨p.toArray⟩).toArray

theorem refVerbs_any (w : World) : Calls Tryd.prog 25 #[] w fun e w' => e = .returned (.slice (some ⟨w.heap.size, 0, none⟩) 26 26) ∧ w' = w.alloc (.cells verbCells 9) := by
  refine calls_of_wp Tryd.func25 rfl ?_
  refine wp_seq (wp_region ?_)
  refine ops_value (v := .slice none 0 0) (w' := w) rfl rfl (by kernel_rfl) ?_
  refine wp_seq (wp_region ?_)
  refine ops_value (v := .slice (some ⟨w.heap.size, 0, none⟩) 26 26) (w' := w.alloc (.cells verbCells 9)) rfl rfl (by kernel_rfl) ?_
  refine ops_value (v := .slice (some ⟨w.heap.size, 0, none⟩) 26 26) (w' := w.alloc (.cells verbCells 9)) rfl rfl (by kernel_rfl) ?_
  refine wp_ret ?_
  exact bodyPost_ret (v := .slice (some ⟨w.heap.size, 0, none⟩) 26 26) (by kernel_rfl) rfl ⟨rfl, rfl⟩
theorem refForms_any (w : World) : Calls Tryd.prog 50 #[] w fun e w' => e = .returned (.slice (some ⟨w.heap.size, 0, none⟩) 26 26) ∧ w' = w.alloc (.cells refCells 9) := by
  refine calls_of_wp Tryd.func50 rfl ?_
  refine wp_seq (wp_region ?_)
  refine ops_value (v := .slice none 0 0) (w' := w) rfl rfl (by kernel_rfl) ?_
  refine wp_seq (wp_region ?_)
  refine ops_value (v := .slice (some ⟨w.heap.size, 0, none⟩) 26 26) (w' := w.alloc (.cells refCells 9)) rfl rfl (by kernel_rfl) ?_
  refine ops_value (v := .slice (some ⟨w.heap.size, 0, none⟩) 26 26) (w' := w.alloc (.cells refCells 9)) rfl rfl (by kernel_rfl) ?_
  refine wp_ret ?_
  exact bodyPost_ret (v := .slice (some ⟨w.heap.size, 0, none⟩) 26 26) (by kernel_rfl) rfl ⟨rfl, rfl⟩
theorem verbCells_at (k : Nat) (h : k < 26) : verbCells[k]? = some (.string ⟨(verbAt k).toArray⟩) :=
  match k, h with
  | 0, _ => by kernel_rfl
  | 1, _ => by kernel_rfl
  | 2, _ => by kernel_rfl
  | 3, _ => by kernel_rfl
  | 4, _ => by kernel_rfl
  | 5, _ => by kernel_rfl
  | 6, _ => by kernel_rfl
  | 7, _ => by kernel_rfl
  | 8, _ => by kernel_rfl
  | 9, _ => by kernel_rfl
  | 10, _ => by kernel_rfl
  | 11, _ => by kernel_rfl
  | 12, _ => by kernel_rfl
  | 13, _ => by kernel_rfl
  | 14, _ => by kernel_rfl
  | 15, _ => by kernel_rfl
  | 16, _ => by kernel_rfl
  | 17, _ => by kernel_rfl
  | 18, _ => by kernel_rfl
  | 19, _ => by kernel_rfl
  | 20, _ => by kernel_rfl
  | 21, _ => by kernel_rfl
  | 22, _ => by kernel_rfl
  | 23, _ => by kernel_rfl
  | 24, _ => by kernel_rfl
  | 25, _ => by kernel_rfl
  | n + 26, h => absurd h (by omega)
theorem refCells_at (k : Nat) (h : k < 26) : refCells[k]? = some (.string ⟨(refAt k).toArray⟩) :=
  match k, h with
  | 0, _ => by kernel_rfl
  | 1, _ => by kernel_rfl
  | 2, _ => by kernel_rfl
  | 3, _ => by kernel_rfl
  | 4, _ => by kernel_rfl
  | 5, _ => by kernel_rfl
  | 6, _ => by kernel_rfl
  | 7, _ => by kernel_rfl
  | 8, _ => by kernel_rfl
  | 9, _ => by kernel_rfl
  | 10, _ => by kernel_rfl
  | 11, _ => by kernel_rfl
  | 12, _ => by kernel_rfl
  | 13, _ => by kernel_rfl
  | 14, _ => by kernel_rfl
  | 15, _ => by kernel_rfl
  | 16, _ => by kernel_rfl
  | 17, _ => by kernel_rfl
  | 18, _ => by kernel_rfl
  | 19, _ => by kernel_rfl
  | 20, _ => by kernel_rfl
  | 21, _ => by kernel_rfl
  | 22, _ => by kernel_rfl
  | 23, _ => by kernel_rfl
  | 24, _ => by kernel_rfl
  | 25, _ => by kernel_rfl
  | n + 26, h => absurd h (by omega)

set_option maxHeartbeats 400000 in
theorem refForm_any (k : Nat) (w : World) (h : k < 26) : Calls Tryd.prog 33 #[.int .i64 k] w fun e w' => e = .returned (.string ⟨(refAt k).toArray⟩) ∧ Below w.heap.size w w' := by
  have hc : (w.alloc (.cells refCells 9)).cell? ⟨w.heap.size, k, none⟩ = some (.string ⟨(refAt k).toArray⟩) := (cell_of_row _ _ k _ 9 (0, 0) (heap_alloc_last w _)).trans (refCells_at k h)
  go_enter Tryd.func33, Tryd.ntmps33
  go_wp2_with (go_at_call 50; refine (refForms_any _).mono ?_; rintro e w' ⟨rfl, rfl⟩)
  go_ret
  exact ⟨rfl, (Below.refl _ _).alloc (Nat.le_refl _) _⟩
def nameR (k : Int) : List UInt8 := if 1 ≤ k ∧ k ≤ 25 then verbAt k.toNat else []
set_option maxHeartbeats 400000 in
theorem refName_any (k : Int) (w : World) : Calls Tryd.prog 12 #[.int .i64 k] w fun e w' => e = .returned (.string ⟨(nameR k).toArray⟩) ∧ Below w.heap.size w w' := by
  by_cases h : 1 ≤ k ∧ k ≤ 25
  · obtain ⟨n, rfl⟩ := Int.eq_ofNat_of_zero_le (show 0 ≤ k by omega)
    have hn : n < 26 := by omega
    have e : nameR n = verbAt n := by rw [nameR, if_pos h]; rfl
    rw [e]
    have hc : (w.alloc (.cells verbCells 9)).cell? ⟨w.heap.size, n, none⟩ = some (.string ⟨(verbAt n).toArray⟩) := (cell_of_row _ _ n _ 9 (0, 0) (heap_alloc_last w _)).trans (verbCells_at n hn)
    have h1 : ¬ (n : Int) < 1 := by omega
    have h2 : ¬ 25 < (n : Int) := by omega
    clear e h
    go_enter Tryd.func12, Tryd.ntmps12
    go_wp2_with (go_at_call 25; refine (refVerbs_any _).mono ?_; rintro e w' ⟨rfl, rfl⟩)
    go_ret
    exact ⟨rfl, (Below.refl _ _).alloc (Nat.le_refl _) _⟩
  · have e : nameR k = [] := by rw [nameR, if_neg h]
    rw [e]
    by_cases h1 : k < 1
    · go_enter Tryd.func12, Tryd.ntmps12
      go_wp2_with fail
      go_ret
      exact ⟨rfl, Below.refl _ _⟩
    · have h2 : 25 < k := by omega
      go_enter Tryd.func12, Tryd.ntmps12
      go_wp2_with fail
      go_ret
      exact ⟨rfl, Below.refl _ _⟩

theorem word_end' (s : ByteArray) (k : Nat) (h : ¬ k < s.size) (hall : (s.data.toList.take k).all wordy = true) : wordB s.data.toList = decide (0 < s.size) := by
  rw [word_end s k h hall]
  have e : s.data.toList.length = s.size := by simp
  cases hl : s.data.toList with
  | nil => rw [hl] at e; simp at e; simp [← e]
  | cons b t =>
    rw [hl] at e
    have : 0 < s.size := by rw [← e]; simp
    simp [this]
set_option maxHeartbeats 400000 in
theorem refWord_any (s : ByteArray) (w : World) (hs : s.size ≤ 9223372036854775806) : Calls Tryd.prog 49 #[.string s] w fun e w' => e = .returned (.bool (wordB s.data.toList)) ∧ w' = w := by
  go_enter Tryd.func49, Tryd.ntmps49
  go_wp2
  go_loop [3] (fun t => ∃ k : Nat, k ≤ s.size ∧ t = .int .i64 k ∧ Hid ((s.data.toList.take k).all wordy = true)) (fun t => s.size - (intOf t).toNat)
  case atStart => exact ⟨0, Nat.zero_le _, rfl, rfl⟩
  case round =>
    obtain ⟨k, hk, rfl, hall⟩ := hrel
    by_cases hlt : k < s.size
    · by_cases hlo : s[k].toNat < 33
      · go_wp2
        go_ret
        exact ⟨ret_bool (word_low s k hlt (.inl hlo)).symm, rfl⟩
      · by_cases hhi : 126 < s[k].toNat
        · go_wp2
          go_ret
          exact ⟨ret_bool (word_low s k hlt (.inr hhi)).symm, rfl⟩
        · go_wp2
          go_round
          case rel => exact ⟨k + 1, by omega, by go_num, word_step s k hlt hall.out (by omega) (by omega)⟩
          case measure => simp [intOf]; omega
    · go_wp2
      go_ret
      exact ⟨ret_bool (word_end' s k hlt hall.out).symm, rfl⟩

theorem ref_big {most n d : Int} (hd : 0 ≤ d) (h9 : d ≤ 9) : (n > most / 10 ∨ n * 10 > most - d) ↔ n > (most - d) / 10 := by omega
set_option maxHeartbeats 800000 in
theorem refParse_any (s : ByteArray) (most : Int) (w : World) (hs : s.size ≤ 9223372036854775806) (h9 : 9 ≤ most) (hm : most ≤ 4611686018427387903) :
    Calls Tryd.prog 51 #[.string s, .int .i64 most] w fun e w' => e = .returned (.tuple #[.int .i64 (parseD s.data.toList most).1, .bool (parseD s.data.toList most).2]) ∧ w' = w := by
  by_cases he : s.data.toList = []
  · have hb : s.size = 0 := by have := congrArg List.length he; simpa using this
    have hb' : (((s.size : Nat) : Int) == 0) = true := by simp [hb]
    have HE := Lib.hid he
    clear he hb
    go_enter Tryd.func51, Tryd.ntmps51
    go_wp2
    go_ret2
    exact ⟨ret_pair (by unfold parseD; rw [if_pos HE.out]), rfl⟩
  · have hb : (((s.size : Nat) : Int) == 0) = false := by
      simp; intro e; exact he (List.eq_nil_of_length_eq_zero (by simpa using e))
    have hgo := Lib.hid (show parseD s.data.toList most = parseGo most (s.data.toList.drop 0) 0 by unfold parseD; rw [if_neg he]; rfl)
    have hmn : ¬ most < 0 := by omega
    clear he
    go_enter Tryd.func51, Tryd.ntmps51
    go_wp2
    go_loop [6, 7, 8] (fun n t _ => ∃ (pos : Nat) (k : Int), pos ≤ s.size ∧ 0 ≤ k ∧ k ≤ most ∧ n = .int .i64 k ∧ t = .int .i64 pos ∧ Hid (parseGo most (s.data.toList.drop pos) k = parseGo most (s.data.toList.drop 0) 0)) (fun _ t _ => s.size - (intOf t).toNat)
    case atStart => exact ⟨0, 0, Nat.zero_le _, by omega, by omega, rfl, rfl, rfl⟩
    case round =>
      obtain ⟨pos, k, hle, hk0, hk1, rfl, rfl, hall⟩ := hrel
      by_cases hp : pos < s.size
      · by_cases hlo : s[pos].toNat < 48
        · go_wp2
          go_ret2
          exact ⟨ret_pair (by rw [hgo.out, ← hall.out, parse_bad most s pos k hp (.inl hlo)]), rfl⟩
        · by_cases hhi : 57 < s[pos].toNat
          · go_wp2
            go_ret2
            exact ⟨ret_pair (by rw [hgo.out, ← hall.out, parse_bad most s pos k hp (.inr hhi)]), rfl⟩
          · obtain ⟨d, hd⟩ : ∃ d : Int, d = (s[pos].toNat : Int) - 48 := ⟨_, rfl⟩
            by_cases hbig : k > (most - d) / 10
            · have HBIG := Lib.hid (parse_big most s pos k hp (by omega) (by omega) (by rw [← hd]; exact (ref_big (by omega) (by omega)).2 hbig))
              go_wp2
              go_ret2
              exact ⟨ret_pair (by rw [hgo.out, ← hall.out, HBIG.out]), rfl⟩
            · have hs2 := mt (ref_big (show 0 ≤ d by omega) (by omega)).1 hbig
              have HST := Lib.hid (parse_step most s pos k hp (by omega) (by omega) (by omega) (by omega))
              go_wp2
              go_round
              case rel => exact ⟨pos + 1, k * 10 + ((s[pos].toNat : Int) - 48), by omega, by omega, by omega, by rw [Int.mul_comm], by go_num, HST.out.trans hall.out⟩
              case measure => simp [intOf]; omega
      · go_wp2
        go_ret2
        exact ⟨ret_pair (by rw [hgo.out, ← hall.out, parse_end most s pos k hp]), rfl⟩

/-- may a byte stand in a name, of the signs that stand before place k alone -/
def othersTo (c : Int) (k : Nat) : Bool := (others.take k).any fun b => (b.toNat : Int) == c
def alnum (c : Int) : Bool := (decide (97 ≤ c) && decide (c ≤ 122)) || ((decide (65 ≤ c) && decide (c ≤ 90)) || (decide (48 ≤ c) && decide (c ≤ 57)))
theorem may_alike : ((List.range 256).all fun c => mayB c == (alnum c || othersTo c 9)) = true := by kernel_rfl
theorem may_is (b : UInt8) : mayB b.toNat = (alnum b.toNat || othersTo b.toNat 9) := by
  have h := List.all_eq_true.1 may_alike b.toNat (List.mem_range.2 b.toNat_lt)
  exact eq_of_beq h
def othersB : ByteArray := ⟨#[45, 43, 47, 59, 46, 36, 95, 40, 41]⟩
theorem othersTo_step {c : Int} {k : Nat} (h : k < 9) : othersTo c (k + 1) = (othersTo c k || (((othersB[k]'h).toNat : Int) == c)) := by
  unfold othersTo
  rw [List.take_succ_eq_append_getElem (by exact h), List.any_append]
  simp
  rfl

def mayTo (c : Int) (k : Nat) : Bool := alnum c || othersTo c k
theorem mayTo_zero (c : Int) : mayTo c 0 = alnum c := by simp [mayTo, othersTo]
theorem mayTo_step {c : Int} {k : Nat} (h : k < 9) : mayTo c (k + 1) = (mayTo c k || (c == ((othersB[k]'h).toNat : Int))) := by
  rw [mayTo, othersTo_step h, mayTo, Bool.or_assoc]
  congr 2
  rw [Bool.eq_iff_iff]; simp; omega
theorem alnum_of {c : Int} {b : Bool} (h : b = true ↔ (97 ≤ c ∧ c ≤ 122 ∨ 65 ≤ c ∧ c ≤ 90 ∨ 48 ≤ c ∧ c ≤ 57)) : b = mayTo c 0 := by
  rw [mayTo_zero, Bool.eq_iff_iff, h]
  simp [alnum]
set_option maxHeartbeats 2000000 in
theorem refValid_any (s : ByteArray) (w : World) (hs : s.size ≤ 9223372036854775807) : Calls Tryd.prog 52 #[.string s] w fun e w' => e = .returned (.bool (validB s.data.toList)) ∧ w' = w := by
  by_cases h1 : s.size < 1
  · go_enter Tryd.func52, Tryd.ntmps52
    go_wp2
    go_ret
    exact ⟨ret_bool (valid_short s (.inl h1)).symm, rfl⟩
  · by_cases h2 : 200 < s.size
    · go_enter Tryd.func52, Tryd.ntmps52
      go_wp2
      go_ret
      exact ⟨ret_bool (valid_short s (.inr h2)).symm, rfl⟩
    · have h0 : 0 < s.size := by omega
      by_cases h3 : s[0].toNat = 45
      · have hq : (((s[0].toNat : Nat) : Int) == 45) = true := by simp [h3]
        have h3' := Lib.hid h3
        clear h3
        go_enter Tryd.func52, Tryd.ntmps52
        go_wp2
        go_ret
        exact ⟨ret_bool (valid_minus s h0 h3'.out).symm, rfl⟩
      · have hq : (((s[0].toNat : Nat) : Int) == 45) = false := by simp; omega
        go_enter Tryd.func52, Tryd.ntmps52
        go_wp2
        rw [show ({ data := #[45, 43, 47, 59, 46, 36, 95, 40, 41] } : ByteArray) = othersB from rfl]
        go_loop [4, 5, 6, 7] (fun t _ _ _ => ∃ k : Nat, k ≤ s.size ∧ t = .int .i64 k ∧ Hid ((s.data.toList.take k).all (fun b => mayB b.toNat) = true)) (fun t _ _ _ => s.size - (intOf t).toNat)
        case atStart => exact ⟨0, Nat.zero_le _, rfl, rfl⟩
        case round =>
          obtain ⟨k, hk, rfl, hall⟩ := hrel
          by_cases hlt : k < s.size
          · have hm := Lib.hid (may_is s[k])
            have hsz : othersB.size = 9 := rfl
            clear h1 h2 h3 hq
            go_wp2
            all_goals
              go_loop [6, 7] (fun b t => ∃ j : Nat, j ≤ 9 ∧ t = .int .i64 j ∧ b = .bool (mayTo s[k].toNat j)) (fun _ t => 9 - (intOf t).toNat)
            all_goals first | (case atStart => exact ⟨0, by omega, rfl, congrArg Value.bool (alnum_of (by simp; omega))⟩) | skip
            all_goals
              obtain ⟨j, hj, rfl, rfl⟩ := hrel
              by_cases hjl : j < 9
              · have hjs : j < othersB.size := hjl
                by_cases hb : mayTo s[k].toNat j = true
                · have hst := Lib.hid (show mayTo s[k].toNat (j + 1) = true by rw [mayTo_step hjl, hb]; rfl)
                  go_wp2
                  go_round
                  case rel => exact ⟨j + 1, by omega, by go_num, by rw [hst.out]⟩
                  case measure => simp [intOf]; omega
                · have hb' : mayTo s[k].toNat j = false := by simpa using hb
                  have hst := Lib.hid (show mayTo s[k].toNat (j + 1) = (((s[k].toNat : Nat) : Int) == ((othersB[j].toNat : Nat) : Int)) by rw [mayTo_step hjl, hb']; rfl)
                  clear hb
                  go_wp2
                  go_round
                  case rel => exact ⟨j + 1, by omega, by go_num, by rw [hst.out]⟩
                  case measure => simp [intOf]; omega
              · obtain rfl : j = 9 := by omega
                by_cases hb : mayTo s[k].toNat 9 = true
                · have hok := Lib.hid (show mayB s[k].toNat = true by rw [hm.out]; exact hb)
                  go_wp2
                  go_round
                  case rel => exact ⟨k + 1, by omega, by go_num, all_step s k hlt (fun b => mayB b.toNat) hall.out hok.out⟩
                  case measure => simp [intOf]; omega
                · have hb' : mayTo s[k].toNat 9 = false := by simpa using hb
                  have hok := Lib.hid (show mayB s[k].toNat = false by rw [hm.out]; exact hb')
                  go_wp2
                  go_ret
                  exact ⟨ret_bool (valid_no s k hlt hok.out).symm, rfl⟩
          · go_wp2
            go_ret
            exact ⟨ret_bool (by rw [take_all s k hlt] at hall; exact (valid_yes s (by omega) (by omega) h3 hall.out).symm), rfl⟩
end Go.Proofs.YtlhkelgkkfnfoaaDoor
