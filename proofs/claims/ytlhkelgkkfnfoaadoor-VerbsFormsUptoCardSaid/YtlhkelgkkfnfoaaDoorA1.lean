/- Contracts of the small functions of names, digits and verbs: what each computes, whatever the world. -/
import Derived.Test.YtlhkelgkkfnfoaaDoorRows
import Derived.Test.YtlhkelgkkfnfoaaDoorP0
import Derived.Test.YtlhkelgkkfnfoaaDoorShelf
import Derived.WalkKit
import Derived.WalkSpells
import Derived.WalkLawsBesides
import Derived.Laws.RangeAny
namespace Go.Proofs.YtlhkelgkkfnfoaaDoor
open Go.RowKit

theorem ret_bool {a b : Bool} (h : a = b) : Ending.returned (.bool a) = .returned (.bool b) := by rw [h]
theorem ret_pair {a a' : Int} {b b' : Bool} (h : (a, b) = (a', b')) : Ending.returned (.tuple #[.int .i64 a, .bool b]) = .returned (.tuple #[.int .i64 a', .bool b']) := by
  obtain ⟨rfl, rfl⟩ := Prod.mk.inj h; rfl
theorem below_iter (w : World) (s : ByteArray) (pos : Nat) : Below w.heap.size w (w.iter s pos) := (Below.refl _ _).alloc (Nat.le_refl _) _

set_option maxHeartbeats 400000 in
theorem may_any (c : Int) (w : World) : Calls Tryd.prog 62 #[.int .u8 c] w fun e w' => e = .returned (.bool (mayB c)) ∧ w' = w := by
  go_enter Tryd.func62, Tryd.ntmps62
  go_wp2_with (go_at_call 74; refine (Tryd.strings_IndexByte _ _ _).mono ?_; rintro e w' ⟨rfl, rfl⟩)
  all_goals go_ret
  all_goals refine ⟨ret_bool ?_, rfl⟩
  all_goals unfold mayB others
  all_goals simp_all
  all_goals omega

set_option maxHeartbeats 400000 in
theorem word_any (s : ByteArray) (w : World) : Calls Tryd.prog 61 #[.string s] w fun e w' => e = .returned (.bool (wordB s.data.toList)) ∧ Below w.heap.size w w' := by
  go_enter Tryd.func61, Tryd.ntmps61
  go_wp2
  go_loopw [4] (fun _ w' => ∃ pos, pos ≤ s.size ∧ w' = w.iter s pos ∧ Hid ((s.data.toList.take pos).all wordy = true)) (fun _ w' => s.size - w'.iterPos w.heap.size)
  case atStart => exact ⟨0, Nat.zero_le _, rfl, rfl⟩
  case round =>
    obtain ⟨pos, hle, rfl, hall⟩ := hrel
    by_cases hp : pos < s.size
    · by_cases ha : (s[pos]'hp).toNat < 128
      · have hnx : ∀ ty, (Instr.next (.pointer (some ⟨w.heap.size, 0, none⟩)) true ty).run Tryd.prog (w.iter s pos) = _ := fun ty => run_next_ascii w s pos ty hp ha
        go_wp2
        · go_ret
          exact ⟨ret_bool (word_low s pos hp (by omega)).symm, below_iter _ _ _⟩
        · go_roundw
          case rel => exact ⟨pos + 1, by omega, rfl, word_step s pos hp hall.out (by omega) (by omega)⟩
          case measure => simp; omega
        · go_ret
          exact ⟨ret_bool (word_low s pos hp (by omega)).symm, below_iter _ _ _⟩
      · have hnx : ∀ ty, (Instr.next (.pointer (some ⟨w.heap.size, 0, none⟩)) true ty).run Tryd.prog (w.iter s pos) = _ := fun ty => run_next_any w s pos ty hp
        have hh := (decode_high s pos hp (by omega)).1
        go_wp2
        go_ret
        exact ⟨ret_bool (word_low s pos hp (by omega)).symm, below_iter _ _ _⟩
    · have hnx : ∀ ty, (Instr.next (.pointer (some ⟨w.heap.size, 0, none⟩)) true ty).run Tryd.prog (w.iter s pos) = _ := fun ty => run_next_end w s pos ty hp
      go_wp2
      go_ret
      exact ⟨ret_bool (by rw [word_end s pos hp hall.out, ByteArray.toList_eq]), below_iter _ _ _⟩

set_option maxHeartbeats 800000 in
theorem parseD_any (s : ByteArray) (most : Int) (w : World) (h9 : 9 ≤ most) (hm : most ≤ 4611686018427387903) :
    Calls Tryd.prog 47 #[.string s, .int .i64 most] w fun e w' => e = .returned (.tuple #[.int .i64 (parseD s.data.toList most).1, .bool (parseD s.data.toList most).2]) ∧ Below w.heap.size w w' := by
  by_cases he : s.data.toList = []
  · have hb : s.toList = [] := by rw [ByteArray.toList_eq]; exact he
    go_enter Tryd.func47, Tryd.ntmps47
    go_wp2
    go_ret2
    exact ⟨ret_pair (by unfold parseD; rw [if_pos he]), Below.refl _ _⟩
  · have hb : s.toList.isEmpty = false := by rw [ByteArray.toList_eq]; simpa using he
    have hgo := Lib.hid (show parseD s.data.toList most = parseGo most (s.data.toList.drop 0) 0 by unfold parseD; rw [if_neg he]; rfl)
    clear he
    go_enter Tryd.func47, Tryd.ntmps47
    go_wp2
    go_loopw [6, 8, 9] (fun n _ _ w' => ∃ (pos : Nat) (k : Int), pos ≤ s.size ∧ 0 ≤ k ∧ k ≤ most ∧ n = .int .i64 k ∧ w' = w.iter s pos ∧ Hid (parseGo most (s.data.toList.drop pos) k = parseGo most (s.data.toList.drop 0) 0)) (fun _ _ _ w' => s.size - w'.iterPos w.heap.size)
    case atStart => exact ⟨0, 0, Nat.zero_le _, by omega, by omega, rfl, rfl, rfl⟩
    case round =>
      obtain ⟨pos, k, hle, hk0, hk1, rfl, rfl, hall⟩ := hrel
      by_cases hp : pos < s.size
      · by_cases ha : (s[pos]'hp).toNat < 128
        · have hnx : ∀ ty, (Instr.next (.pointer (some ⟨w.heap.size, 0, none⟩)) true ty).run Tryd.prog (w.iter s pos) = _ := fun ty => run_next_ascii w s pos ty hp ha
          go_wp2
          · go_ret2
            exact ⟨ret_pair (by rw [hgo.out, ← hall.out, parse_bad most s pos k hp (by omega)]), below_iter _ _ _⟩
          · go_ret2
            exact ⟨ret_pair (by rw [hgo.out, ← hall.out, parse_big most s pos k hp (by omega) (by omega) (by omega)]), below_iter _ _ _⟩
          · go_roundw
            case rel => exact ⟨pos + 1, k * 10 + ((s[pos].toNat : Int) - 48), by omega, by omega, by omega, rfl, rfl, (parse_step most s pos k hp (by omega) (by omega) (by omega) (by omega)).trans hall.out⟩
            case measure => simp; omega
          · go_ret2
            exact ⟨ret_pair (by rw [hgo.out, ← hall.out, parse_big most s pos k hp (by omega) (by omega) (by omega)]), below_iter _ _ _⟩
          · go_ret2
            exact ⟨ret_pair (by rw [hgo.out, ← hall.out, parse_bad most s pos k hp (by omega)]), below_iter _ _ _⟩
        · have hnx : ∀ ty, (Instr.next (.pointer (some ⟨w.heap.size, 0, none⟩)) true ty).run Tryd.prog (w.iter s pos) = _ := fun ty => run_next_any w s pos ty hp
          have hh := (decode_high s pos hp (by omega)).1
          go_wp2
          go_ret2
          exact ⟨ret_pair (by rw [hgo.out, ← hall.out, parse_bad most s pos k hp (by omega)]), below_iter _ _ _⟩
      · have hnx : ∀ ty, (Instr.next (.pointer (some ⟨w.heap.size, 0, none⟩)) true ty).run Tryd.prog (w.iter s pos) = _ := fun ty => run_next_end w s pos ty hp
        go_wp2
        go_ret2
        exact ⟨ret_pair (by rw [hgo.out, ← hall.out, parse_end most s pos k hp]), below_iter _ _ _⟩

set_option maxHeartbeats 400000 in
theorem fieldOf_any (r : Int) (w : World) : Calls Tryd.prog 30 #[.int .i32 r] w fun e w' => e = .returned (.int .i64 (fieldOf r)) ∧ w' = w := by
  go_enter Tryd.func30, Tryd.ntmps30
  go_wp2
  all_goals go_ret
  all_goals exact ⟨by simp_all [fieldOf], rfl⟩
set_option maxHeartbeats 400000 in
theorem most_any (f : Int) (w : World) : Calls Tryd.prog 48 #[.int .i64 f] w fun e w' => e = .returned (.int .i64 (mostOf f)) ∧ w' = w := by
  go_enter Tryd.func48, Tryd.ntmps48
  go_wp2
  all_goals go_ret
  all_goals exact ⟨by simp_all [mostOf], rfl⟩
set_option maxHeartbeats 400000 in
theorem hasRune_any (s : ByteArray) (r : Nat) (w : World) (hs : ∀ b ∈ s.data.toList, b.toNat < 128) :
    Calls Tryd.prog 53 #[.string s, .int .i32 r] w fun e w' => e = .returned (.bool (s.data.toList.any (fun b => b.toNat == r))) ∧ Below w.heap.size w w' := by
  have HS := Lib.hid hs
  clear hs
  go_enter Tryd.func53, Tryd.ntmps53
  go_wp2
  go_loopw [6] (fun _ w' => ∃ pos, pos ≤ s.size ∧ w' = w.iter s pos ∧ Hid ((s.data.toList.take pos).any (fun b => b.toNat == r) = false)) (fun _ w' => s.size - w'.iterPos w.heap.size)
  case atStart => exact ⟨0, Nat.zero_le _, rfl, rfl⟩
  case round =>
    obtain ⟨pos, hle, rfl, hall⟩ := hrel
    by_cases hp : pos < s.size
    · have ha : (s[pos]'hp).toNat < 128 := HS.out _ (mem_at s pos hp)
      have hnx : ∀ ty, (Instr.next (.pointer (some ⟨w.heap.size, 0, none⟩)) true ty).run Tryd.prog (w.iter s pos) = _ := fun ty => run_next_ascii w s pos ty hp ha
      by_cases hq : s[pos].toNat = r
      · have hq' : (((s[pos].toNat : Nat) : Int) == (r : Int)) = true := by simp [hq]
        have hq2 := Lib.hid hq
        clear hq
        go_wp2
        go_ret
        exact ⟨ret_bool (any_at s pos hp (fun b => b.toNat == r) (by simp [hq2.out])).symm, below_iter _ _ _⟩
      · have hq' : (((s[pos].toNat : Nat) : Int) == (r : Int)) = false := by simp; omega
        go_wp2
        go_roundw
        case rel => exact ⟨pos + 1, by omega, rfl, any_step s pos hp (fun b => b.toNat == r) hall.out (by simpa using hq)⟩
        case measure => simp; omega
    · have hnx : ∀ ty, (Instr.next (.pointer (some ⟨w.heap.size, 0, none⟩)) true ty).run Tryd.prog (w.iter s pos) = _ := fun ty => run_next_end w s pos ty hp
      go_wp2
      go_ret
      exact ⟨ret_bool (by rw [take_all s pos hp] at hall; exact hall.out.symm), below_iter _ _ _⟩
set_option maxHeartbeats 400000 in
theorem valid_any (s : ByteArray) (w : World) (hs : s.size ≤ 9223372036854775807) : Calls Tryd.prog 46 #[.string s] w fun e w' => e = .returned (.bool (validB s.data.toList)) ∧ w' = w := by
  by_cases h1 : s.size < 1
  · go_enter Tryd.func46, Tryd.ntmps46
    go_wp2
    go_ret
    exact ⟨ret_bool (valid_short s (.inl h1)).symm, rfl⟩
  · by_cases h2 : 200 < s.size
    · go_enter Tryd.func46, Tryd.ntmps46
      go_wp2
      go_ret
      exact ⟨ret_bool (valid_short s (.inr h2)).symm, rfl⟩
    · have h0 : 0 < s.size := by omega
      by_cases h3 : s[0].toNat = 45
      · have hq : (((s[0].toNat : Nat) : Int) == 45) = true := by simp [h3]
        have h3' := Lib.hid h3
        clear h3
        go_enter Tryd.func46, Tryd.ntmps46
        go_wp2
        go_ret
        exact ⟨ret_bool (valid_minus s h0 h3'.out).symm, rfl⟩
      · have hq : (((s[0].toNat : Nat) : Int) == 45) = false := by simp; omega
        go_enter Tryd.func46, Tryd.ntmps46
        go_wp2
        go_loop [19, 3] (fun t _ => ∃ k : Nat, k ≤ s.size ∧ t = .int .i64 k ∧ Hid ((s.data.toList.take k).all (fun b => mayB b.toNat) = true)) (fun t _ => s.size - (intOf t).toNat)
        case atStart => exact ⟨0, Nat.zero_le _, rfl, rfl⟩
        case round =>
          obtain ⟨k, hk, rfl, hall⟩ := hrel
          by_cases hlt : k < s.size
          · by_cases hm : mayB s[k].toNat = true
            · go_wp2_with (go_at_call 62; refine (may_any _ _).mono ?_; rintro e w' ⟨rfl, rfl⟩)
              go_round
              case rel => exact ⟨k + 1, by omega, by go_num, all_step s k hlt (fun b => mayB b.toNat) hall.out hm⟩
              case measure => simp [intOf]; omega
            · have hm' : mayB s[k].toNat = false := by simpa using hm
              go_wp2_with (go_at_call 62; refine (may_any _ _).mono ?_; rintro e w' ⟨rfl, rfl⟩)
              go_ret
              exact ⟨ret_bool (valid_no s k hlt hm').symm, rfl⟩
          · go_wp2
            go_ret
            exact ⟨ret_bool (by rw [take_all s k hlt] at hall; exact (valid_yes s (by omega) (by omega) h3 hall.out).symm), rfl⟩
end Go.Proofs.YtlhkelgkkfnfoaaDoor
