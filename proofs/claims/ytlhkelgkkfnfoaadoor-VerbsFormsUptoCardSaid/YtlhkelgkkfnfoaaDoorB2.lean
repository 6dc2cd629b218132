/- The reference's look at a command: has, between, right, Check: it answers as the program's does. -/
import Derived.Test.YtlhkelgkkfnfoaaDoorB1
import Derived.Test.YtlhkelgkkfnfoaaDoorA7
import Derived.Deep.DeepCutAuto
namespace Go.Proofs.YtlhkelgkkfnfoaaDoor
open Go.RowKit

/-- has a kind, in the reference, this letter behind its verb? -/
def hasR (k : Nat) (r : Nat) : Bool := (refAt k).any fun b => b.toNat == r
theorem ref_sizes : ((List.range 26).all fun k => decide ((refAt k).length ≤ 4)) = true := by kernel_rfl
theorem ref_len {k : Nat} (h : k < 26) : (refAt k).length ≤ 4 := by
  have h1 := List.all_eq_true.1 ref_sizes k (List.mem_range.2 h)
  simpa using h1

set_option maxHeartbeats 400000 in
theorem refHas_any (k r : Nat) (w : World) (h : k < 26) : Calls Tryd.prog 57 #[.int .i64 k, .int .u8 r] w fun e w' => e = .returned (.bool (hasR k r)) ∧ Below w.heap.size w w' := by
  obtain ⟨s, hs⟩ : ∃ s : ByteArray, s = ⟨(refAt k).toArray⟩ := ⟨_, rfl⟩
  have hsz : s.size ≤ 4 := by rw [hs]; have := ref_len h; simpa [ByteArray.size] using this
  have HA := Lib.hid (show hasR k r = s.data.toList.any (fun b => b.toNat == r) by rw [hs]; rfl)
  have HF := Lib.hid (refForm_any k w h)
  rw [← hs] at HF
  clear hs
  go_enter Tryd.func57, Tryd.ntmps57
  go_wp2_with fail
  refine HF.out.mono ?_
  rintro e w1 ⟨rfl, hb⟩
  go_wp2_with fail
  go_loop [6] (fun t => ∃ j : Nat, j ≤ s.size ∧ t = .int .i64 j ∧ Hid ((s.data.toList.take j).any (fun b => b.toNat == r) = false)) (fun t => s.size - (intOf t).toNat)
  case atStart => exact ⟨0, Nat.zero_le _, rfl, rfl⟩
  case round =>
    obtain ⟨j, hj, rfl, hall⟩ := hrel
    by_cases hp : j < s.size
    · by_cases hq : s[j].toNat = r
      · have hq' : (((s[j].toNat : Nat) : Int) == (r : Int)) = true := by simp [hq]
        have hq2 := Lib.hid hq
        clear hq
        go_wp2
        go_ret
        exact ⟨ret_bool (by rw [HA.out]; exact (any_at s j hp (fun b => b.toNat == r) (by simp [hq2.out])).symm), hb⟩
      · have hq' : (((s[j].toNat : Nat) : Int) == (r : Int)) = false := by simp; omega
        go_wp2
        go_round
        case rel => exact ⟨j + 1, by omega, by go_num, any_step s j hp (fun b => b.toNat == r) hall.out (by simpa using hq)⟩
        case measure => simp [intOf]; omega
    · go_wp2
      go_ret
      exact ⟨ret_bool (by rw [HA.out]; rw [take_all s j hp] at hall; exact hall.out.symm), hb⟩

/-- a number's field, in the reference -/
def btwR (k r : Nat) (n least most : Int) : Bool := if hasR k r then decide (least ≤ n ∧ n ≤ most) else n == 0
set_option maxHeartbeats 400000 in
theorem refBtw_any (k r : Nat) (n least most : Int) (w : World) (h : k < 26) :
    Calls Tryd.prog 56 #[.int .i64 k, .int .u8 r, .int .i64 n, .int .i64 least, .int .i64 most] w fun e w' => e = .returned (.bool (btwR k r n least most)) ∧ Below w.heap.size w w' := by
  obtain ⟨b, hb⟩ : ∃ b, b = hasR k r := ⟨_, rfl⟩
  have HH := Lib.hid (refHas_any k r w h)
  rw [← hb] at HH
  have HB := Lib.hid (show btwR k r n least most = if b then decide (least ≤ n ∧ n ≤ most) else n == 0 by rw [hb]; rfl)
  clear hb
  go_enter Tryd.func56, Tryd.ntmps56
  go_wp2_with fail
  refine HH.out.mono ?_
  rintro e w1 ⟨rfl, hb⟩
  cases b
  · go_wp2_with fail
    go_ret
    exact ⟨ret_bool (by rw [HB.out]; rfl), hb⟩
  · by_cases h1 : least ≤ n
    · go_wp2_with fail
      all_goals go_ret
      all_goals exact ⟨ret_bool (by rw [HB.out]; simp [h1]), hb⟩
    · go_wp2_with fail
      all_goals go_ret
      all_goals exact ⟨ret_bool (by rw [HB.out]; simp; omega), hb⟩

def numR (k : Nat) (c : CmdN) : Bool := btwR k 112 c.pri 0 4294967295 && btwR k 100 c.delay 0 4294967295 && btwR k 114 c.ttr 1 4294967295 && btwR k 110 c.number 0 4294967295 && btwR k 105 c.id 0 4611686018427387903
def tubeR (k : Nat) (c : CmdN) : Bool := if hasR k 116 then validB c.tube.data.toList else c.tube.data.toList.isEmpty
def rightR (k : Nat) (c : CmdN) (n : Nat) : Bool := numR k c && tubeR k c && ((k == 1) || n == 0)
theorem has_alike : ((List.range 26).all fun k => hasR k 112 == hasL k 112 && hasR k 100 == hasL k 100 && hasR k 114 == hasL k 116 && hasR k 110 == hasL k 110 && hasR k 105 == hasL k 105 && hasR k 116 == hasL k 117 && (hasL k 116 == (k == 1))) = true := by kernel_rfl
theorem rightR_is {k : Nat} (c : CmdN) (n : Nat) (h : k < 26) : rightR k c n = (rightK k c && ((k == 1) || n == 0)) := by
  have h1 := List.all_eq_true.1 has_alike k (List.mem_range.2 h)
  simp only [Bool.and_eq_true, beq_iff_eq] at h1
  obtain ⟨⟨⟨⟨⟨⟨e1, e2⟩, e3⟩, e4⟩, e5⟩, e6⟩, e7⟩ := h1
  rw [rightR]
  congr 1
  rw [rightK, numR, tubeR, Bool.eq_iff_iff]
  simp only [btwR, e1, e2, e3, e4, e5, e6, okTo, okAt, numOk, tubeOk, mostOf, Bool.and_eq_true, Bool.or_eq_true, Bool.true_and, e7]
  by_cases hk : k = 1
  · subst hk
    simp
    constructor
    · rintro ⟨⟨⟨⟨⟨h1, h2⟩, h3⟩, h4⟩, h5⟩, h6⟩
      exact ⟨⟨⟨⟨⟨⟨h5, h1⟩, h2⟩, by omega⟩, h4⟩, h6⟩, by omega⟩
    · rintro ⟨⟨⟨⟨⟨⟨h5, h1⟩, h2⟩, h3⟩, h4⟩, h6⟩, h7⟩
      exact ⟨⟨⟨⟨⟨h1, h2⟩, by omega⟩, h4⟩, h5⟩, h6⟩
  · have hk' : (k == 1) = false := by simpa using hk
    simp only [hk']
    simp only [Bool.false_eq_true, Bool.not_false, true_or, and_true]
    constructor
    · rintro ⟨⟨⟨⟨⟨h1, h2⟩, h3⟩, h4⟩, h5⟩, h6⟩
      exact ⟨⟨⟨⟨⟨h5, h1⟩, h2⟩, by simpa using h3⟩, h4⟩, h6⟩
    · rintro ⟨⟨⟨⟨⟨h5, h1⟩, h2⟩, h3⟩, h4⟩, h6⟩
      exact ⟨⟨⟨⟨⟨h1, h2⟩, by simpa using h3⟩, h4⟩, h5⟩, h6⟩

theorem refBtw_112 (k : Nat) (n : Int) (w : World) (h : k < 26) : Calls Tryd.prog 56 #[.int .i64 k, .int .u8 112, .int .i64 n, .int .i64 0, .int .i64 4294967295] w fun e w' => e = .returned (.bool (btwR k 112 n 0 4294967295)) ∧ Below w.heap.size w w' := refBtw_any k 112 n 0 4294967295 w h
theorem refBtw_100 (k : Nat) (n : Int) (w : World) (h : k < 26) : Calls Tryd.prog 56 #[.int .i64 k, .int .u8 100, .int .i64 n, .int .i64 0, .int .i64 4294967295] w fun e w' => e = .returned (.bool (btwR k 100 n 0 4294967295)) ∧ Below w.heap.size w w' := refBtw_any k 100 n 0 4294967295 w h
theorem refBtw_114 (k : Nat) (n : Int) (w : World) (h : k < 26) : Calls Tryd.prog 56 #[.int .i64 k, .int .u8 114, .int .i64 n, .int .i64 1, .int .i64 4294967295] w fun e w' => e = .returned (.bool (btwR k 114 n 1 4294967295)) ∧ Below w.heap.size w w' := refBtw_any k 114 n 1 4294967295 w h
theorem refBtw_110 (k : Nat) (n : Int) (w : World) (h : k < 26) : Calls Tryd.prog 56 #[.int .i64 k, .int .u8 110, .int .i64 n, .int .i64 0, .int .i64 4294967295] w fun e w' => e = .returned (.bool (btwR k 110 n 0 4294967295)) ∧ Below w.heap.size w w' := refBtw_any k 110 n 0 4294967295 w h
theorem refBtw_105 (k : Nat) (n : Int) (w : World) (h : k < 26) : Calls Tryd.prog 56 #[.int .i64 k, .int .u8 105, .int .i64 n, .int .i64 0, .int .i64 4611686018427387903] w fun e w' => e = .returned (.bool (btwR k 105 n 0 4611686018427387903)) ∧ Below w.heap.size w w' := refBtw_any k 105 n 0 4611686018427387903 w h
theorem refHas_116 (k : Nat) (w : World) (h : k < 26) : Calls Tryd.prog 57 #[.int .i64 k, .int .u8 116] w fun e w' => e = .returned (.bool (hasR k 116)) ∧ Below w.heap.size w w' := refHas_any k 116 w h

set_option maxHeartbeats 400000 in
theorem refRight_no (c : CmdN) (b : Value) (w : World) (h : c.kind < 1 ∨ 25 < c.kind) : Calls Tryd.prog 39 #[.agg (c.cells b)] w fun e w' => e = .returned (.bool false) ∧ Below w.heap.size w w' := by
  obtain ⟨kind, id, pri, delay, ttr, number, tube⟩ := c
  simp only [CmdN.cells] at h ⊢
  go_enter Tryd.func39, Tryd.ntmps39
  rcases h with h | h
  · go_wp2_with fail
    go_ret
    exact ⟨rfl, (Below.refl _ _).alloc (Nat.le_refl _) _⟩
  · go_wp2_with fail
    go_ret
    exact ⟨rfl, (Below.refl _ _).alloc (Nat.le_refl _) _⟩

/-- the row of the command that is looked at -/
structure InRow (w0 : World) (b : Nat) (cs : Array Value) (wr : World) : Prop where
  row : wr.heap[b]? = some (.cells cs 27 (0, 0))
  below : Below w0.heap.size w0 wr
theorem InRow.on {w0 : World} {b : Nat} {cs : Array Value} {wr w' : World} (h : InRow w0 b cs wr) (hb : Below wr.heap.size wr w') : InRow w0 b cs w' :=
  ⟨(hb.block _ (lt_of_heap h.row)).trans h.row, h.below.trans (hb.mono h.below.size)⟩

set_option maxHeartbeats 1000000 in
theorem refRight_yes (k : Nat) (c : CmdN) (a : Option Addr) (n m : Nat) (w : World) (hk : c.kind = k) (h1 : 1 ≤ k) (h2 : k ≤ 25) (ht : c.tube.size ≤ 9223372036854775807) :
    Calls Tryd.prog 39 #[.agg (c.cells (.slice a n m))] w fun e w' => e = .returned (.bool (rightR k c n)) ∧ Below w.heap.size w w' := by
  obtain ⟨kind, id, pri, delay, ttr, number, tube⟩ := c
  simp only at hk ht
  subst hk
  simp only [CmdN.cells]
  have hk26 : k < 26 := by omega
  have HP := fun w => Lib.hid (refBtw_112 k pri w hk26)
  have HD := fun w => Lib.hid (refBtw_100 k delay w hk26)
  have HT := fun w => Lib.hid (refBtw_114 k ttr w hk26)
  have HN := fun w => Lib.hid (refBtw_110 k number w hk26)
  have HI := fun w => Lib.hid (refBtw_105 k id w hk26)
  have HH := fun w => Lib.hid (refHas_116 k w hk26)
  have HV := fun w => Lib.hid (refValid_any tube w (by omega))
  have HG := Lib.hid (show rightR k ⟨k, id, pri, delay, ttr, number, tube⟩ n = (btwR k 112 pri 0 4294967295 && btwR k 100 delay 0 4294967295 && btwR k 114 ttr 1 4294967295 && btwR k 110 number 0 4294967295 && btwR k 105 id 0 4611686018427387903 && (if hasR k 116 then validB tube.data.toList else tube.data.toList.isEmpty) && ((k == 1) || n == 0)) from rfl)
  generalize btwR k 112 pri 0 4294967295 = p at HP HG
  generalize btwR k 100 delay 0 4294967295 = d at HD HG
  generalize btwR k 114 ttr 1 4294967295 = t at HT HG
  generalize btwR k 110 number 0 4294967295 = q at HN HG
  generalize btwR k 105 id 0 4611686018427387903 = i at HI HG
  generalize hasR k 116 = hh at HH HG
  generalize validB tube.data.toList = v at HV HG
  go_enter Tryd.func39, Tryd.ntmps39
  go_upto_region 4 with (fail)
  go_cut [4] (fun v4 wc => v4 = .bool (p && d && t && q && i) ∧ InRow w w.heap.size #[.int .i64 k, .int .i64 id, .int .i64 pri, .int .i64 delay, .int .i64 ttr, .int .i64 number, .string tube, .slice a n m] wc)
  case first =>
    clear HH HV HG
    go_wp2_with fail
    refine (HP _).out.mono ?_
    rintro e w1 ⟨rfl, hb⟩
    obtain ⟨hb2, hz, hr1⟩ := below_after hb
    have hin : InRow w w.heap.size _ w1 := ⟨hr1, hb2⟩
    have hx : w1.cell? ⟨w.heap.size, 3, none⟩ = some (.int .i64 delay) := (cell_of_row _ _ 3 _ 27 (0, 0) hin.row).trans rfl
    clear hb hb2 hz hr1
    cases p
    · go_wp2_with fail
      go_meet
      case rel => exact ⟨by simp, hin⟩
    go_wp2_with fail
    refine (HD _).out.mono ?_
    rintro e w2 ⟨rfl, hb⟩
    replace hin := hin.on hb
    have hx : w2.cell? ⟨w.heap.size, 4, none⟩ = some (.int .i64 ttr) := (cell_of_row _ _ 4 _ 27 (0, 0) hin.row).trans rfl
    clear hb
    cases d
    · go_wp2_with fail
      go_meet
      case rel => exact ⟨by simp, hin⟩
    go_wp2_with fail
    refine (HT _).out.mono ?_
    rintro e w3 ⟨rfl, hb⟩
    replace hin := hin.on hb
    have hx : w3.cell? ⟨w.heap.size, 5, none⟩ = some (.int .i64 number) := (cell_of_row _ _ 5 _ 27 (0, 0) hin.row).trans rfl
    clear hb
    cases t
    · go_wp2_with fail
      go_meet
      case rel => exact ⟨by simp, hin⟩
    go_wp2_with fail
    refine (HN _).out.mono ?_
    rintro e w4 ⟨rfl, hb⟩
    replace hin := hin.on hb
    have hx : w4.cell? ⟨w.heap.size, 1, none⟩ = some (.int .i64 id) := (cell_of_row _ _ 1 _ 27 (0, 0) hin.row).trans rfl
    clear hb
    cases q
    · go_wp2_with fail
      go_meet
      case rel => exact ⟨by simp, hin⟩
    go_wp2_with fail
    refine (HI _).out.mono ?_
    rintro e w5 ⟨rfl, hb⟩
    replace hin := hin.on hb
    clear hb
    go_wp2_with fail
    go_meet
    case rel => exact ⟨by simp, hin⟩
  case rest =>
    clear HP HD HT HN HI
    obtain ⟨rfl, hin⟩ := hcut
    generalize hpd : (p && d && t && q && i) = ok at HG
    go_upto_region 5 with (fail)
    go_cut [5] (fun v5 wc => v5 = .bool (if hh then v else tube.data.toList.isEmpty) ∧ InRow w w.heap.size #[.int .i64 k, .int .i64 id, .int .i64 pri, .int .i64 delay, .int .i64 ttr, .int .i64 number, .string tube, .slice a n m] wc)
    case first =>
      clear HG
      go_wp2_with fail
      refine (HH _).out.mono ?_
      rintro e w1 ⟨rfl, hb⟩
      replace hin := hin.on hb
      have hx : w1.cell? ⟨w.heap.size, 6, none⟩ = some (.string tube) := (cell_of_row _ _ 6 _ 27 (0, 0) hin.row).trans rfl
      clear hb
      cases hh
      · go_wp2_with fail
        refine (HH _).out.mono ?_
        rintro e w2 ⟨rfl, hb⟩
        replace hin := hin.on hb
        have hx : w2.cell? ⟨w.heap.size, 6, none⟩ = some (.string tube) := (cell_of_row _ _ 6 _ 27 (0, 0) hin.row).trans rfl
        clear hb
        go_wp2_with fail
        go_meet
        case rel => exact ⟨by rw [ByteArray.toList_eq]; rfl, hin⟩
      · go_wp2_with fail
        refine (HV _).out.mono ?_
        rintro e w2 ⟨rfl, rfl⟩
        cases v
        · go_wp2_with fail
          refine (HH _).out.mono ?_
          rintro e w3 ⟨rfl, hb⟩
          replace hin := hin.on hb
          clear hb
          go_wp2_with fail
          go_meet
          case rel => exact ⟨by simp, hin⟩
        · go_wp2_with fail
          go_meet
          case rel => exact ⟨by simp, hin⟩
    case rest =>
      clear HH HV
      obtain ⟨rfl, hin⟩ := hcut
      generalize (if hh then v else tube.data.toList.isEmpty) = tb at HG
      have hx : wc.cell? ⟨w.heap.size, 7, none⟩ = some (.slice a n m) := (cell_of_row _ _ 7 _ 27 (0, 0) hin.row).trans rfl
      cases ok
      · go_wp2_with fail
        go_ret
        exact ⟨ret_bool (by rw [HG.out]; simp), hin.below⟩
      · cases tb
        · go_wp2_with fail
          go_ret
          exact ⟨ret_bool (by rw [HG.out]; simp), hin.below⟩
        · go_wp2_with fail
          all_goals go_ret
          all_goals exact ⟨ret_bool (by rw [HG.out, Bool.eq_iff_iff]; simp; omega), hin.below⟩


def rightS (c : CmdN) (n : Nat) : Bool := rightB c && ((c.kind == 1) || n == 0)
theorem refRight_any (c : CmdN) (a : Option Addr) (n m : Nat) (w : World) (ht : c.tube.size ≤ 9223372036854775807) :
    Calls Tryd.prog 39 #[.agg (c.cells (.slice a n m))] w fun e w' => e = .returned (.bool (rightS c n)) ∧ Below w.heap.size w w' := by
  by_cases h : 1 ≤ c.kind ∧ c.kind ≤ 25
  · obtain ⟨k, hk⟩ : ∃ k : Nat, c.kind = k := ⟨c.kind.toNat, by omega⟩
    have e : rightS c n = rightR k c n := by
      rw [rightS, rightB, decide_eq_true h, rightR_is c n (by omega), hk]
      simp only [Int.toNat_natCast, Bool.true_and]
      congr 2
      rw [Bool.eq_iff_iff]; simp; omega
    rw [e]
    exact refRight_yes k c a n m w hk (by omega) (by omega) ht
  · have e : rightS c n = false := by rw [rightS, rightB, decide_eq_false h]; rfl
    rw [e]
    exact refRight_no c _ w (by omega)

set_option maxHeartbeats 400000 in
theorem refCheck_any (c : CmdN) (a : Option Addr) (n m : Nat) (w : World) (ht : c.tube.size ≤ 9223372036854775807) :
    Calls Tryd.prog 21 #[.agg (c.cells (.slice a n m))] w fun e w' => e = .returned (.int .i64 (errB (checkB c n))) ∧ Below w.heap.size w w' := by
  have HR := Lib.hid (refRight_any c a n m (w.alloc (.cells (c.cells (.slice a n m)) 27)) ht)
  obtain ⟨r, hr⟩ : ∃ r, r = rightB c := ⟨_, rfl⟩
  have HC := Lib.hid (show checkB c n = (r && decide (sizeOf c ≤ 65535) && decide ((n : Int) = sizeOf c)) by rw [checkB, hr])
  have HS := Lib.hid (show rightS c n = (r && ((c.kind == 1) || n == 0)) by rw [rightS, hr])
  clear hr
  obtain ⟨kind, id, pri, delay, ttr, number, tube⟩ := c
  simp only [CmdN.cells, sizeOf] at HR HC HS ⊢
  by_cases hk : (kind == 1) = true
  · rw [hk] at HS
    rw [if_pos (by simpa using hk)] at HC
    rw [HS.out] at HR
    clear HS
    go_enter Tryd.func21, Tryd.ntmps21
    go_wp2_with fail
    refine HR.out.mono ?_
    rintro e w1 ⟨rfl, hb⟩
    obtain ⟨hb2, hz, hr1⟩ := below_after hb
    have hx0 : w1.cell? ⟨w.heap.size, 0, none⟩ = some (.int .i64 kind) := (cell_of_row _ _ 0 _ 27 (0, 0) hr1).trans rfl
    have hx5 : w1.cell? ⟨w.heap.size, 5, none⟩ = some (.int .i64 number) := (cell_of_row _ _ 5 _ 27 (0, 0) hr1).trans rfl
    have hx7 : w1.cell? ⟨w.heap.size, 7, none⟩ = some (.slice a n m) := (cell_of_row _ _ 7 _ 27 (0, 0) hr1).trans rfl
    clear hb hr1
    cases r
    · simp only [Bool.false_and]
      go_wp2_with fail
      go_ret
      exact ⟨ret_int (by rw [HC.out]; simp [errB]), hb2⟩
    · simp only [Bool.true_or, Bool.true_and]
      go_wp2_with fail
      all_goals go_ret
      all_goals refine ⟨ret_int ?_, hb2⟩
      all_goals rw [HC.out]
      all_goals simp_all [errB]
      all_goals omega
  · have hk' : (kind == 1) = false := by simpa using hk
    rw [hk'] at HS
    rw [if_neg (by simpa using hk)] at HC
    rw [HS.out] at HR
    clear HS hk
    go_enter Tryd.func21, Tryd.ntmps21
    go_wp2_with fail
    refine HR.out.mono ?_
    rintro e w1 ⟨rfl, hb⟩
    obtain ⟨hb2, hz, hr1⟩ := below_after hb
    have hx0 : w1.cell? ⟨w.heap.size, 0, none⟩ = some (.int .i64 kind) := (cell_of_row _ _ 0 _ 27 (0, 0) hr1).trans rfl
    clear hb hr1
    cases r
    · simp only [Bool.false_and]
      go_wp2_with fail
      go_ret
      exact ⟨ret_int (by rw [HC.out]; simp [errB]), hb2⟩
    · simp only [Bool.false_or, Bool.true_and]
      by_cases hn : n = 0
      · subst hn
        go_wp2_with fail
        all_goals go_ret
        all_goals exact ⟨ret_int (by rw [HC.out]; simp [errB]), hb2⟩
      · have hn' : (n == 0) = false := by simpa using hn
        rw [hn']
        have HN := Lib.hid hn
        clear hn hn'
        go_wp2_with fail
        all_goals go_ret
        all_goals exact ⟨ret_int (by rw [HC.out]; have := HN.out; simp [errB]; omega), hb2⟩
end Go.Proofs.YtlhkelgkkfnfoaaDoor
