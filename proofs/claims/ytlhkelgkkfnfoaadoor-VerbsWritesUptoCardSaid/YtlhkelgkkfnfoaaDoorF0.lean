/- The reference's decimal numerals: ref01.Print; a field's word. -/
import Derived.Test.YtlhkelgkkfnfoaaDoorE6
import Derived.Laws.IdiomStrings
namespace Go.Proofs.YtlhkelgkkfnfoaaDoor
open Go.RowKit

/-- the last digit -/
def digB (m : Nat) : UInt8 := UInt8.ofNat (48 + m % 10)
/-- the digits ahead of the last -/
def ahead (u : Nat) : List UInt8 := if u < 10 then [] else Lib.decDigits (u / 10)
theorem dec_ahead (u : Nat) : Lib.decDigits u = ahead u ++ [digB u] := by
  rw [Lib.decDigits, ahead]
  split
  · next h => rw [digB, Nat.mod_eq_of_lt h]; rfl
  · rfl
theorem conv_one (W : World) (x : UInt8) : (convert 25 9 (.slice (some ⟨W.heap.size, 0, none⟩) 1 1)).run Tryd.prog (W.alloc (.cells #[.int .u8 x.toNat] 5)) = .ok (.string ⟨#[x]⟩) (W.alloc (.cells #[.int .u8 x.toNat] 5)) := by
  have := run_convert_bytes_back (P := Tryd.prog) (W.alloc (.cells #[.int .u8 x.toNat] 5)) 25 9 5 ⟨W.heap.size, 0, none⟩ 1 [x] Tryd.underlying25 Tryd.underlying5 Tryd.underlying9
    (fun j hj => by
      obtain rfl : j = 0 := by simpa using hj
      show World.cell? _ ⟨W.heap.size, 0, none⟩ = _
      rw [cell_of_row _ _ 0 _ 5 (0, 0) (heap_alloc_last W _)]
      rfl)
  exact this

theorem conv_digit (W : World) (m : Nat) : (convert 25 9 (.slice (some ⟨W.heap.size, 0, none⟩) 1 1)).run Tryd.prog (W.alloc (.cells #[.int .u8 (48 + (m : Int) % 10)] 5)) = .ok (.string ⟨#[digB m]⟩) (W.alloc (.cells #[.int .u8 (48 + (m : Int) % 10)] 5)) := by
  have := conv_one W (digB m)
  have e : (((digB m).toNat : Nat) : Int) = 48 + (m : Int) % 10 := by rw [digB, UInt8.toNat_ofNat']; omega
  rw [e] at this
  exact this
theorem append_bytes (a b : List UInt8) : (⟨a.toArray⟩ : ByteArray) ++ ⟨b.toArray⟩ = ⟨(a ++ b).toArray⟩ := data_ext (by simp)

set_option maxHeartbeats 800000 in
set_option maxRecDepth 20000 in
theorem refDec_any (n : Nat) (w : World) (hn : (n : Int) ≤ 9223372036854775807) : Calls Tryd.prog 58 #[.int .i64 n] w fun e w' => e = .returned (.string ⟨(Lib.decDigits n).toArray⟩) ∧ Below w.heap.size w w' := by
  have hcv := conv_digit
  go_enter Tryd.func58, Tryd.ntmps58
  go_wp2_with fail
  go_loopw [0, 3] (fun t s wr => ∃ (m : Nat) (l : List UInt8), t = .int .i64 m ∧ s = .string ⟨(digB m :: l).toArray⟩ ∧ (m : Int) ≤ 9223372036854775807 ∧ Below w.heap.size w wr ∧ Hid (Lib.decDigits n = ahead m ++ digB m :: l)) (fun t _ _ => (intOf t).toNat)
  case atStart => exact ⟨n, [], rfl, rfl, hn, (Below.refl _ _).alloc (Nat.le_refl _) _, dec_ahead n⟩
  case round =>
    obtain ⟨m, l, rfl, rfl, hm, hb, hd⟩ := hrel
    have hln : l.length ≤ 19 := by
      have h1 := dec_len 18 n (by omega)
      rw [hd.out, List.length_append, List.length_cons] at h1
      omega
    by_cases hlt : 10 ≤ m
    · obtain ⟨q, hq⟩ : ∃ q, q = m / 10 := ⟨_, rfl⟩
      have hqi : (m : Int) / 10 = q := by omega
      have hqt : Int.tdiv (m : Int) 10 = q := by rw [Int.tdiv_eq_ediv_of_nonneg (by omega)]; exact hqi
      have HD := Lib.hid (show Lib.decDigits n = ahead q ++ digB q :: (digB m :: l) by
        rw [hd.out, ahead, if_neg (by omega), ← hq, dec_ahead q, List.append_assoc]; rfl)
      have HB := Lib.hid hb
      have HQ := Lib.hid hq
      clear hb hd hq
      go_wp2_with fail
      go_roundw
      case rel => exact ⟨q, digB m :: l, rfl, by rw [show (⟨#[digB q]⟩ : ByteArray) = ⟨([digB q] : List UInt8).toArray⟩ from rfl, append_bytes]; rfl, by have := HQ.out; omega, HB.out.alloc HB.out.size _, HD.out⟩
      case measure => have := HQ.out; simp [intOf]; omega
    · have HD := Lib.hid (show Lib.decDigits n = digB m :: l by rw [hd.out, ahead, if_pos (by omega)]; rfl)
      have HB := Lib.hid hb
      clear hb hd
      go_wp2_with fail
      go_ret
      exact ⟨by rw [HD.out]; rfl, HB.out⟩
theorem refDec_int (n : Int) (w : World) (h0 : 0 ≤ n) (h1 : n ≤ 9223372036854775807) : Calls Tryd.prog 58 #[.int .i64 n] w fun e w' => e = .returned (.string ⟨(printD n).toArray⟩) ∧ Below w.heap.size w w' := by
  obtain ⟨m, rfl⟩ := Int.eq_ofNat_of_zero_le h0
  rw [printD_nat _ h0]
  exact refDec_any m w h1

set_option maxHeartbeats 800000 in
theorem refField_112 (c : CmdN) (v : Value) (w : World) (h0 : 0 ≤ c.pri) (h1 : c.pri ≤ 9223372036854775807) :
    Calls Tryd.prog 40 #[.agg (c.cells v), .int .u8 112] w fun e w' => e = .returned (.string (wordL c 112)) ∧ Below w.heap.size w w' := by
  rw [wordL_112]
  obtain ⟨kind, id, pri, delay, ttr, number, tube⟩ := c
  simp only [CmdN.cells] at h0 h1 ⊢
  have HD := fun w => Lib.hid (refDec_int pri w h0 h1)
  go_enter Tryd.func40, Tryd.ntmps40
  go_wp2_with fail
  refine (HD _).out.mono ?_
  rintro e w1 ⟨rfl, hb⟩
  obtain ⟨hb1, -, -⟩ := below_after hb
  go_wp2_with fail
  go_ret
  exact ⟨rfl, hb1⟩

set_option maxHeartbeats 800000 in
theorem refField_100 (c : CmdN) (v : Value) (w : World) (h0 : 0 ≤ c.delay) (h1 : c.delay ≤ 9223372036854775807) :
    Calls Tryd.prog 40 #[.agg (c.cells v), .int .u8 100] w fun e w' => e = .returned (.string (wordL c 100)) ∧ Below w.heap.size w w' := by
  rw [wordL_100]
  obtain ⟨kind, id, pri, delay, ttr, number, tube⟩ := c
  simp only [CmdN.cells] at h0 h1 ⊢
  have HD := fun w => Lib.hid (refDec_int delay w h0 h1)
  go_enter Tryd.func40, Tryd.ntmps40
  go_wp2_with fail
  refine (HD _).out.mono ?_
  rintro e w1 ⟨rfl, hb⟩
  obtain ⟨hb1, -, -⟩ := below_after hb
  go_wp2_with fail
  go_ret
  exact ⟨rfl, hb1⟩

set_option maxHeartbeats 800000 in
theorem refField_114 (c : CmdN) (v : Value) (w : World) (h0 : 0 ≤ c.ttr) (h1 : c.ttr ≤ 9223372036854775807) :
    Calls Tryd.prog 40 #[.agg (c.cells v), .int .u8 114] w fun e w' => e = .returned (.string (wordL c 116)) ∧ Below w.heap.size w w' := by
  rw [wordL_116]
  obtain ⟨kind, id, pri, delay, ttr, number, tube⟩ := c
  simp only [CmdN.cells] at h0 h1 ⊢
  have HD := fun w => Lib.hid (refDec_int ttr w h0 h1)
  go_enter Tryd.func40, Tryd.ntmps40
  go_wp2_with fail
  refine (HD _).out.mono ?_
  rintro e w1 ⟨rfl, hb⟩
  obtain ⟨hb1, -, -⟩ := below_after hb
  go_wp2_with fail
  go_ret
  exact ⟨rfl, hb1⟩

set_option maxHeartbeats 800000 in
theorem refField_110 (c : CmdN) (v : Value) (w : World) (h0 : 0 ≤ c.number) (h1 : c.number ≤ 9223372036854775807) :
    Calls Tryd.prog 40 #[.agg (c.cells v), .int .u8 110] w fun e w' => e = .returned (.string (wordL c 110)) ∧ Below w.heap.size w w' := by
  rw [wordL_110]
  obtain ⟨kind, id, pri, delay, ttr, number, tube⟩ := c
  simp only [CmdN.cells] at h0 h1 ⊢
  have HD := fun w => Lib.hid (refDec_int number w h0 h1)
  go_enter Tryd.func40, Tryd.ntmps40
  go_wp2_with fail
  refine (HD _).out.mono ?_
  rintro e w1 ⟨rfl, hb⟩
  obtain ⟨hb1, -, -⟩ := below_after hb
  go_wp2_with fail
  go_ret
  exact ⟨rfl, hb1⟩

set_option maxHeartbeats 800000 in
theorem refField_105 (c : CmdN) (v : Value) (w : World) (h0 : 0 ≤ c.id) (h1 : c.id ≤ 9223372036854775807) :
    Calls Tryd.prog 40 #[.agg (c.cells v), .int .u8 105] w fun e w' => e = .returned (.string (wordL c 105)) ∧ Below w.heap.size w w' := by
  rw [wordL_105]
  obtain ⟨kind, id, pri, delay, ttr, number, tube⟩ := c
  simp only [CmdN.cells] at h0 h1 ⊢
  have HD := fun w => Lib.hid (refDec_int id w h0 h1)
  go_enter Tryd.func40, Tryd.ntmps40
  go_wp2_with fail
  refine (HD _).out.mono ?_
  rintro e w1 ⟨rfl, hb⟩
  obtain ⟨hb1, -, -⟩ := below_after hb
  go_wp2_with fail
  go_ret
  exact ⟨rfl, hb1⟩

set_option maxHeartbeats 800000 in
theorem refField_116 (c : CmdN) (v : Value) (w : World) :
    Calls Tryd.prog 40 #[.agg (c.cells v), .int .u8 116] w fun e w' => e = .returned (.string (wordL c 117)) ∧ Below w.heap.size w w' := by
  rw [wordL_117]
  obtain ⟨kind, id, pri, delay, ttr, number, tube⟩ := c
  simp only [CmdN.cells]
  go_enter Tryd.func40, Tryd.ntmps40
  go_wp2_with fail
  go_ret
  exact ⟨rfl, (Below.refl _ _).alloc (Nat.le_refl _) _⟩
/-- a field's word, as the reference writes it -/
theorem refField_any {k : Nat} (c : CmdN) (v : Value) (w : World) (hk : k < 26) (hr : rightK k c = true) (b : UInt8) (hb : b ∈ refAt k) :
    Calls Tryd.prog 40 #[.agg (c.cells v), .int .u8 b.toNat] w fun e w' => e = .returned (.string (wordL c (lm b))) ∧ Below w.heap.size w w' := by
  have hm : lm b ∈ behindAt k := by rw [behind_is hk]; exact List.mem_map_of_mem hb
  rcases ref_letter hk hb with rfl | rfl | rfl | rfl | rfl | rfl
  · have := field_112 hr hm; exact refField_112 c v w this.1 this.2
  · have := field_100 hr hm; exact refField_100 c v w this.1 this.2
  · have := field_116 hr hm; exact refField_114 c v w this.1 this.2
  · have := field_110 hr hm; exact refField_110 c v w this.1 this.2
  · have := field_105 hr hm; exact refField_105 c v w this.1 this.2
  · exact refField_116 c v w

end Go.Proofs.YtlhkelgkkfnfoaaDoor
