/- The reference's Print. -/
import Derived.Test.YtlhkelgkkfnfoaaDoorF1
namespace Go.Proofs.YtlhkelgkkfnfoaaDoor
open Go.RowKit

theorem line_joined (k : Nat) (c : CmdN) : joined (wordsL k c) (wordsL k c).length = lineL k c := by
  rw [joined, List.take_length]; rfl

set_option maxHeartbeats 400000 in
theorem refPrint_no (c : CmdN) (a : Option Addr) (n m : Nat) (w : World) (ht : c.tube.size ≤ 9223372036854775807) (h : rightS c n = false) :
    Calls Tryd.prog 19 #[.agg (c.cells (.slice a n m))] w fun e w' => e = .returned (.tuple #[.string ⟨#[]⟩, .int .i64 72]) ∧ Below w.heap.size w w' := by
  have HR := Lib.hid (refRight_any c a n m (w.alloc (.cells (c.cells (.slice a n m)) 27)) ht)
  rw [h] at HR
  clear h
  obtain ⟨kind, id, pri, delay, ttr, number, tube⟩ := c
  simp only [CmdN.cells] at HR ⊢
  go_enter Tryd.func19, Tryd.ntmps19
  go_wp2_with fail
  refine HR.out.mono ?_
  rintro e w1 ⟨rfl, hb⟩
  obtain ⟨hb1, -, -⟩ := below_after hb
  go_wp2_with fail
  go_ret2
  exact ⟨rfl, hb1⟩

/-- the rows of Print's own -/
structure InRPr (w0 : World) (b1 base : Nat) (cs : Array Value) (v : Value) (n : Nat) (xs : List Value) (wr : World) : Prop where
  row1 : wr.heap[b1]? = some (.cells cs 27 (0, 0))
  own : wr.ownsRow base 9 1 v n xs
  below : Below w0.heap.size w0 wr
  old : w0.heap.size ≤ base
  lt1 : b1 < base
  top : base ≤ wr.heap.size
section
variable {w0 wr : World} {b1 base n : Nat} {cs : Array Value} {v : Value} {xs : List Value}
theorem InRPr.on (h : InRPr w0 b1 base cs v n xs wr) {w' : World} (hb : Below wr.heap.size wr w') : InRPr w0 b1 base cs v n xs w' :=
  ⟨(hb.block _ (lt_of_heap h.row1)).trans h.row1, owns_below h.own hb, h.below.trans (hb.mono h.below.size), h.old, h.lt1, Nat.le_trans h.top hb.size⟩
theorem InRPr.grown (h : InRPr w0 b1 base cs v n xs wr) {w' : World} {v' : Value} {n' : Nat} {xs' : List Value} (hg : wr.grownBy w' v.ownBlock) (ho : w'.ownsRow base 9 1 v' n' xs') : InRPr w0 b1 base cs v' n' xs' w' := by
  have hit : ∀ k, v.ownBlock = some k → base ≤ k := fun k hk => (h.own.lt k hk).1
  have h1 := h.lt1
  have h2 := h.old
  refine ⟨(hg.block _ (lt_of_heap h.row1) (fun e => by have := hit _ e.symm; omega)).trans h.row1, ho, h.below.trans ⟨hg.os, hg.tape, hg.output, hg.size, fun k hk => hg.block k (Nat.lt_of_lt_of_le hk h.below.size) (fun e => by have := hit _ e.symm; omega)⟩, h2, h1, Nat.le_trans h.top hg.size⟩
theorem InRPr.ltw (h : InRPr w0 b1 base cs v n xs wr) : b1 < wr.heap.size := lt_of_heap h.row1
end

theorem refName_nat (k : Nat) (w : World) (h1 : 1 ≤ k) (h2 : k ≤ 25) : Calls Tryd.prog 12 #[.int .i64 k] w fun e w' => e = .returned (.string ⟨(verbAt k).toArray⟩) ∧ Below w.heap.size w w' := by
  have := refName_any k w
  rw [nameR, if_pos (by omega)] at this
  exact this

set_option maxHeartbeats 2000000 in
set_option maxRecDepth 20000 in
theorem refPrint_yes (k : Nat) (c : CmdN) (a : Option Addr) (n m : Nat) (w : World) (hk : c.kind = k) (h1 : 1 ≤ k) (h2 : k ≤ 25) (ht : c.tube.size ≤ 9223372036854775807) (hr : rightK k c = true) (hs : rightS c n = true) :
    Calls Tryd.prog 19 #[.agg (c.cells (.slice a n m))] w fun e w' => e = .returned (.tuple #[.string ⟨(lineL k c).toArray⟩, .int .i64 0]) ∧ Below w.heap.size w w' := by
  have h26 : k < 26 := by omega
  have HR := Lib.hid (refRight_any c a n m (w.alloc (.cells (c.cells (.slice a n m)) 27)) ht)
  rw [hs] at HR
  have HWW := Lib.hid (wordsL_words h1 h26 hr)
  have HFL := Lib.hid (line_len h26 hr)
  have HF := Lib.hid (fun (b : UInt8) (hb : b ∈ refAt k) (w : World) => refField_any c (.slice a n m) w h26 hr b hb)
  have HWD := Lib.hid (show (wordsL k c) = ⟨(verbAt k).toArray⟩ :: (refAt k).map fun b => wordL c (lm b) by rw [wordsL, behind_is h26, List.map_map]; rfl)
  have HLJ := Lib.hid (line_joined k c)
  obtain ⟨lets, hlets⟩ : ∃ lets : ByteArray, lets = ⟨(refAt k).toArray⟩ := ⟨_, rfl⟩
  have hls : lets.size = (refAt k).length := by rw [hlets]; simp [ByteArray.size]
  have hl4 : lets.size ≤ 4 := by rw [hls]; exact ref_len h26
  have HLG := Lib.hid (show ∀ (pos : Nat) (h : pos < lets.size), ∃ h' : pos < (refAt k).length, lets[pos] = (refAt k)[pos] by subst hlets; intro pos h; exact ⟨by rw [hls] at h; exact h, rfl⟩)
  have HFM := Lib.hid (fun w => refForm_any k w h26)
  have HNM := Lib.hid (fun w => refName_nat k w h1 h2)
  rw [← hlets] at HFM
  obtain ⟨i0, hi, hz0, hz1, hz2⟩ := info_parts info9
  have HLS := Lib.hid hls
  obtain ⟨lw, hlw⟩ : ∃ lw, lw = wordL c := ⟨_, rfl⟩
  obtain ⟨ws, hws⟩ : ∃ ws, ws = wordsL k c := ⟨_, rfl⟩
  obtain ⟨ln, hln⟩ : ∃ ln, ln = lineL k c := ⟨_, rfl⟩
  rw [← hlw] at HF HWD
  rw [← hws] at HWW HWD HLJ
  rw [← hln] at HFL HLJ ⊢
  clear hlets hs hr ht hls hlw hws hln
  obtain ⟨kind, id, pri, delay, ttr, number, tube⟩ := c
  simp only at hk
  subst hk
  simp only [CmdN.cells] at HR HF ⊢
  go_enter Tryd.func19, Tryd.ntmps19
  go_wp2_with fail
  refine HR.out.mono ?_
  rintro e w1 ⟨rfl, hb⟩
  obtain ⟨hb1, hz1', hr1⟩ := below_after hb
  have hx0 : w1.cell? ⟨w.heap.size, 0, none⟩ = some (.int .i64 k) := (cell_of_row _ _ 0 _ 27 (0, 0) hr1).trans rfl
  have HB1 := Lib.hid hb1
  have HR1 := Lib.hid hr1
  clear hb hb1 hr1 HR
  go_wp2_with fail
  refine (HNM.out _).mono ?_
  rintro e w2 ⟨rfl, hb⟩
  have HB2 := Lib.hid (HB1.out.trans (hb.mono HB1.out.size))
  have HR2 := Lib.hid ((hb.block _ (lt_of_heap HR1.out)).trans HR1.out)
  clear hb HB1 HR1 hx0 HNM hz1'
  obtain ⟨B, hB⟩ : ∃ B, B = w2.heap.size := ⟨_, rfl⟩
  have HI := Lib.hid (show InRPr w w.heap.size B #[.int .i64 k, .int .i64 id, .int .i64 pri, .int .i64 delay, .int .i64 ttr, .int .i64 number, .string tube, .slice a n m] (.slice (some ⟨B, 0, none⟩) 1 1) 1 ((ws.take 1).map Value.string) (w2.alloc (.cells #[.string ⟨(verbAt k).toArray⟩] 9)) from by
    have hl := lt_of_heap HR2.out
    refine ⟨(Below.heap_alloc _ _ _ hl).trans HR2.out, ?_, HB2.out.alloc HB2.out.size _, by rw [hB]; exact HB2.out.size, by omega, by rw [hB]; simp⟩
    rw [HWD.out]
    refine ⟨rfl, .inr ⟨_, 1, #[.string ⟨(verbAt k).toArray⟩], rfl, Nat.le_refl _, by rw [hB]; exact heap_alloc_last _ _, Nat.le_refl _, by decide, rfl, rfl⟩⟩)
  go_upto_region 4 with (fail)
  rw [← hB]
  generalize w2.alloc (.cells #[.string ⟨(verbAt k).toArray⟩] 9) = W3 at HI ⊢
  clear HB2 HR2 hB
  have hx0 : W3.cell? ⟨w.heap.size, 0, none⟩ = some (.int .i64 k) := (cell_of_row _ _ 0 _ 27 (0, 0) HI.out.row1).trans rfl
  go_wp2_with fail
  refine (HFM.out _).mono ?_
  rintro e w4 ⟨rfl, hb⟩
  have HI4 := Lib.hid (HI.out.on hb)
  clear hb HI hx0 HFM
  go_wp2_with fail
  go_loopw [4, 6] (fun v t wr => ∃ pos : Nat, pos ≤ lets.size ∧ t = .int .i64 pos ∧ InRPr w w.heap.size B #[.int .i64 k, .int .i64 id, .int .i64 pri, .int .i64 delay, .int .i64 ttr, .int .i64 number, .string tube, .slice a n m] v (pos + 1) ((ws.take (pos + 1)).map Value.string) wr) (fun _ t _ => lets.size - (intOf t).toNat)
  case atStart => exact ⟨0, Nat.zero_le _, rfl, HI4.out⟩
  case round =>
    obtain ⟨pos, hle, rfl, hin⟩ := hrel
    clear HI4
    have HI := Lib.hid hin
    clear hin
    by_cases hp : pos < lets.size
    · obtain ⟨hp', hq⟩ := HLG.out pos hp
      have HST := Lib.hid (show (ws.take (pos + 1 + 1)).map Value.string = (ws.take (pos + 1)).map Value.string ++ [.string (lw (lm lets[pos]))] by
        rw [HWD.out, List.take_succ_cons, List.take_succ_cons, List.take_succ_eq_append_getElem (by simpa using hp')]
        simp [hq])
      have HFW := Lib.hid (fun w => HF.out lets[pos] (by rw [hq]; exact List.getElem_mem _) w)
      obtain ⟨x, hx⟩ : ∃ x, x = lw (lm lets[pos]) := ⟨_, rfl⟩
      rw [← hx] at HST HFW
      clear hq hx
      go_wp2_with fail
      have HI5 := Lib.hid (HI.out.on (w' := wr.drew) (Below.refl _ _).drew)
      clear HI
      refine wp_region_any (by kernel_rfl) ?_
      change wpAny _ _ _ _ _ _ _ wr.drew
      generalize wr.drew = W5 at HI5 ⊢
      have hi4 : ∀ W, (Instr.index 9 (.string lets) (.int .i64 pos)).run Tryd.prog W = .ok (.int .u8 lets[pos].toNat) W := fun W => by go_simp
      refine wpAny_take (i := 0) (v := u4) rfl (by kernel_rfl) (by kernel_rfl) (by kernel_rfl) (fun _ _ _ h => h) (.inl ⟨by kernel_rfl, fun W => (by kernel_rfl)⟩) ?_
      refine wpAny_take (i := 2) (v := .string lets) rfl (by kernel_rfl) (by kernel_rfl) (by kernel_rfl) (fun _ _ _ h => h) (.inl ⟨by kernel_rfl, fun W => (by kernel_rfl)⟩) ?_
      refine wpAny_take (i := 3) (v := .int .i64 pos) rfl (by kernel_rfl) (by kernel_rfl) (by kernel_rfl) (fun _ _ _ h => h) (.inl ⟨by kernel_rfl, fun W => (by kernel_rfl)⟩) ?_
      refine wpAny_take (i := 4) (v := .int .u8 lets[pos].toNat) rfl (by kernel_rfl) (by kernel_rfl) (by kernel_rfl) (fun _ _ _ h => h) (.inl ⟨by kernel_rfl, fun W => index_run _ _ _ rfl _ _ (by kernel_rfl) (by kernel_rfl) (hi4 W)⟩) ?_
      refine any_one 1 (by kernel_rfl) rfl (by kernel_rfl) fun K hK => ?_
      refine wp_load_row 27 _ rfl w.heap.size (by kernel_rfl) 27 _ (0, 0) _ HI5.out.row1 Tryd.underlying27 rfl (by kernel_rfl) (hK _ _ ?_)
      clear hK K
      refine any_one 5 (by kernel_rfl) rfl (by kernel_rfl) fun K hK => ?_
      go_simp
      refine (HFW.out _).mono ?_
      rintro e W6 ⟨rfl, hb⟩
      refine hK _ _ ?_
      clear hK K
      have HI6 := Lib.hid (HI5.out.on hb)
      clear hb HI5 HFW
      refine any_one 6 (by kernel_rfl) rfl (by kernel_rfl) fun K hK => ?_
      go_simp
      refine hK _ _ ?_
      clear hK K
      have HI7 := Lib.hid (HI6.out.on (w' := W6.alloc (.cells #[.string x] 9)) ((Below.refl _ _).alloc (Nat.le_refl _) _))
      refine any_one 7 (by kernel_rfl) rfl (by kernel_rfl) fun K hK => ?_
      refine wp_append_own _ _ _ 39 rfl B 9 i0 (.string ⟨#[]⟩) 1 16 Tryd.underlying39 hi hz0 hz1 hz2 rfl (by decide) u4 _ _ (by kernel_rfl) HI7.out.own ⟨W6.heap.size, 0, none⟩ 1 1 [.string x] (by kernel_rfl) rfl (one_new _ _ _) (one_string _) (by unfold maxLen; omega) (by omega) HI7.out.top fun v' w8 hown hgrow _ => hK _ _ ?_
      clear hK K
      have HI8 := Lib.hid (HI7.out.grown hgrow hown)
      rw [← HST.out] at HI8
      clear hown hgrow HI7 HI6 HST
      refine wpAny_take (i := 8) (v := v') rfl (by kernel_rfl) (by kernel_rfl) (by kernel_rfl) (fun _ _ _ h => h) (.inl ⟨by kernel_rfl, fun W => (by kernel_rfl)⟩) ?_
      refine wpAny_done (by kernel_rfl) ?_ _
      go_wp2_with fail
      go_roundw
      case rel => exact ⟨pos + 1, by omega, by go_num, HI8.out⟩
      case measure => simp [intOf]; omega
    · obtain rfl : pos = lets.size := by omega
      have hwl : ws.length = lets.size + 1 := by rw [HWD.out, HLS.out]; simp
      have htake : ws.take (lets.size + 1) = ws := List.take_of_length_le (by omega)
      have hown := HI.out.own
      rw [htake] at hown
      obtain ⟨g, cap, rfl, _, hlt, htx, _⟩ := texts_own hown (by omega)
      have HJ := Lib.hid (refJoin_any g 0 cap ws wr htx hlt (by omega) (by omega) HWW.out (by rw [HLJ.out]; have := HFL.out; omega))
      rw [HLJ.out, hwl] at HJ
      have HB := Lib.hid HI.out.below
      clear hown htx htake HI hwl
      go_wp2_with fail
      refine HJ.out.mono ?_
      rintro e w9 ⟨rfl, hb⟩
      have HB9 := Lib.hid (HB.out.trans (hb.mono HB.out.size))
      clear hb HB HJ
      go_wp2_with fail
      go_ret2
      exact ⟨rfl, HB9.out⟩
end Go.Proofs.YtlhkelgkkfnfoaaDoor
