/- verbs.Parse, where the line's words are words: too few or too many; else the loop over the fields. -/
import Derived.Test.YtlhkelgkkfnfoaaDoorA9
import Derived.IntWalk
import Derived.StillTailTactics
namespace Go.Proofs.YtlhkelgkkfnfoaaDoor
open Go.RowKit

structure InParse (w0 : World) (b2 b12 it bw : Nat) (lets : ByteArray) (ws : List ByteArray) (pos : Nat) (c : CmdN) (wr : World) : Prop where
  row2 : wr.heap[b2]? = some (.cells zcells 27 (0, 0))
  row12 : wr.heap[b12]? = some (.cells (c.cells (.slice none 0 0)) 27 (0, 0))
  iter : wr.heap[it]? = some (.stringIter lets pos)
  below : Below w0.heap.size w0 wr
  texts : TextsAt wr bw 0 ws
  ltw : bw < wr.heap.size
  ne1 : b2 ≠ b12
  ne2 : b2 ≠ it
  ne3 : b12 ≠ it
  ne4 : bw ≠ b12
  ne5 : bw ≠ it
  new2 : w0.heap.size ≤ b2
  new12 : w0.heap.size ≤ b12
  newit : w0.heap.size ≤ it
section
variable {w0 : World} {b2 b12 it bw : Nat} {lets : ByteArray} {ws : List ByteArray} {pos : Nat} {c : CmdN} {wr : World}
theorem InParse.on (h : InParse w0 b2 b12 it bw lets ws pos c wr) {w' : World} (hb : Below wr.heap.size wr w') : InParse w0 b2 b12 it bw lets ws pos c w' :=
  ⟨(hb.block _ (lt_of_heap h.row2)).trans h.row2, (hb.block _ (lt_of_heap h.row12)).trans h.row12, (hb.block _ (lt_of_heap h.iter)).trans h.iter, h.below.trans (hb.mono h.below.size), h.texts.below hb h.ltw, Nat.lt_of_lt_of_le h.ltw hb.size,
    h.ne1, h.ne2, h.ne3, h.ne4, h.ne5, h.new2, h.new12, h.newit⟩
theorem InParse.moved (h : InParse w0 b2 b12 it bw lets ws pos c wr) (p : Nat) : InParse w0 b2 b12 it bw lets ws p c (wr.iterAt it lets p) :=
  ⟨(Lib.iterAt_other _ _ _ _ _ h.ne2).trans h.row2, (Lib.iterAt_other _ _ _ _ _ h.ne3).trans h.row12, Lib.iterAt_heap _ _ _ _ _ h.iter, Lib.below_iterAt h.below h.newit _ _,
    fun j x hx => (World.cell?_of_block (w := wr) (Lib.iterAt_other _ _ _ _ _ h.ne5)).trans (h.texts j x hx), by rw [Lib.iterAt_size]; exact h.ltw, h.ne1, h.ne2, h.ne3, h.ne4, h.ne5, h.new2, h.new12, h.newit⟩
theorem InParse.set (h : InParse w0 b2 b12 it bw lets ws pos c wr) {w1 : World} (hb : Below wr.heap.size wr w1) (j : Nat) (v : Value) (c' : CmdN) (hc : (c.cells (.slice none 0 0)).setIfInBounds j v = c'.cells (.slice none 0 0)) :
    InParse w0 b2 b12 it bw lets ws pos c' (w1.setCell ⟨b12, j, none⟩ v) := by
  have h1 := h.on hb
  refine ⟨(Below.heap_setCell _ _ _ _ (by exact h.ne1)).trans h1.row2, ?_, (Below.heap_setCell _ _ _ _ (by exact h.ne3.symm)).trans h1.iter, h1.below.setCell (by exact h.new12) _, ?_, by simpa [World.setCell] using h1.ltw, h.ne1, h.ne2, h.ne3, h.ne4, h.ne5, h.new2, h.new12, h.newit⟩
  · rw [row_set h1.row12, hc]
  · exact fun j x hx => (World.cell?_of_block (w := w1) (Below.heap_setCell _ _ _ _ (by exact h.ne4))).trans (h1.texts j x hx)
end

theorem readAll_step {k : Nat} {ws : List ByteArray} {c : CmdN} {pos : Nat} {b : UInt8} {x : ByteArray} (h : pos < (behindAt k).length) (hw : pos + 1 < ws.length) (hb : (behindAt k)[pos] = b) (hx : ws[pos + 1] = x) :
    readAll ((behindAt k).drop pos) (ws.drop (pos + 1)) c = if (readF c (fieldB b) x).2 then readAll ((behindAt k).drop (pos + 1)) (ws.drop (pos + 2)) (readF c (fieldB b) x).1 else none := by
  rw [List.drop_eq_getElem_cons h, List.drop_eq_getElem_cons hw, hb, hx, readAll]
theorem readF_kind (c : CmdN) (f : Int) (x : ByteArray) : (readF c f x).1.kind = c.kind := by
  unfold readF
  split
  · rfl
  · dsimp only
    split
    · rfl
    · split
      · rfl
      · split
        · rfl
        · split <;> rfl
theorem splitB_size (sep : ByteArray) (k : Nat) : ∀ (s : ByteArray), ∀ x ∈ Lib.splitB sep 0 k s, x.size ≤ s.size := by
  induction k with
  | zero => intro s x hx; rw [Lib.splitB_zero] at hx; simp at hx; rw [hx]; exact Nat.le_refl _
  | succ k ih =>
    intro s x hx
    rcases Lib.indexB_cases s sep with h | ⟨i, h, -⟩
    · rw [Lib.splitB_miss _ _ _ _ h] at hx; simp at hx; rw [hx]; exact Nat.le_refl _
    · rw [Lib.splitB_hit _ _ _ _ _ h] at hx
      rcases List.mem_cons.1 hx with rfl | hx
      · simp [ByteArray.size_extract]; omega
      · have := ih _ x hx
        simp [ByteArray.size_extract] at this; omega
theorem words_size (s : ByteArray) (hs : s.size < 4294967281) : ∀ x ∈ wordsOf s, x.size ≤ 4294967281 := fun x hx => by
  have := splitB_size ⟨#[32]⟩ _ s x hx
  omega

set_option maxHeartbeats 1000000 in
theorem parse_count (s : ByteArray) (kk : Nat) (w : World) (hg : Good w) (hs : s.size < 4294967281) (hk : kindB (Lib.cut s.data.toList [32]).1 = kk) (hkk1 : 1 ≤ kk) (hkk26 : kk < 26) (hw : allWords (wordsOf s) = true) (hc : (wordsOf s).length ≠ 1 + (behindAt kk).length) :
    Calls Tryd.prog 13 #[.string s] w fun e w' => e = .returned (.tuple #[.agg zcells, .int .i64 71]) ∧ Below w.heap.size w w' := by
  have HS := Lib.hid (fun (o : Obj) => Tryd.strings_Cut_shaped s ⟨#[32]⟩ (w.alloc o) (hg.below ((Below.refl _ _).alloc (Nat.le_refl _) o)).shaped hs)
  have HK := Lib.hid hk
  have HG := Lib.hid hg
  have HN := Lib.hid hw
  clear hk hg hw
  obtain ⟨ws, hws⟩ : ∃ ws, ws = wordsOf s := ⟨_, rfl⟩
  have HWS := Lib.hid hws
  obtain ⟨lets, hlets⟩ : ∃ lets : ByteArray, lets = ⟨(behindAt kk).toArray⟩ := ⟨_, rfl⟩
  have HLE := Lib.hid hlets
  have hlsz : lets.size = (behindAt kk).length := by rw [hlets]; simp [ByteArray.size]
  have HLS := Lib.hid hlsz
  have hwle : ws.length ≤ 4294967282 := by rw [hws]; have := wordsOf_le s; omega
  have hlle : lets.size ≤ 4 := by rw [hlsz]; exact behind_len hkk26
  have hcount : ((ws.length : Int) != 1 + (lets.size : Int)) = true := by rw [hlsz, hws]; simp [bne]; omega
  have HC := Lib.hid hc
  have HSZ := Lib.hid (show ∀ x ∈ ws, x.size ≤ 4294967281 from by rw [hws]; exact words_size s hs)
  clear hws hlets hlsz hc
  go_enter Tryd.func13, Tryd.ntmps13
  go_wp2_with fail
  refine (HS.out _).mono ?_
  rintro e w1 ⟨rfl, nd, rfl⟩
  go_wp2_with fail
  refine (kindOf_any _ _).mono ?_
  rintro e w2 ⟨k, rfl, hk26, hk1, hk0, hb⟩
  obtain rfl : k = kk := by rw [← kindB_eq hk26 hk1 hk0]; exact HK.out
  have hkz : ((k : Int) == 0) = false := by simp; omega
  obtain ⟨hb2, hz, hrow⟩ := row_after hb
  have HROW := Lib.hid (show w2.heap[w.heap.size]? = some (.cells zcells 27 (0, 0)) from hrow)
  clear hk1 hk0 hb hrow HS HK
  go_wp2_with fail
  refine (dsplit_yes s _ (HG.out.below hb2) hs HN.out).mono ?_
  rintro e w3 ⟨rfl, hb3, ht3, hz23⟩
  rw [← HWS.out] at ht3 ⊢
  have hb4 := hb2.trans (hb3.mono (Nat.le_of_lt hz))
  have HROW3 := Lib.hid ((hb3.block _ (lt_of_heap HROW.out)).trans HROW.out)
  have hz3 : w.heap.size < w3.heap.size := by omega
  obtain ⟨bw, hbw⟩ : ∃ bw, bw = w2.heap.size := ⟨_, rfl⟩
  rw [← hbw] at ht3 hz23 ⊢
  have hzw : w.heap.size < bw := by omega
  have HT3 := Lib.hid ht3
  clear hb3 HROW hz hbw ht3
  go_wp2_with fail
  refine (formOf_yes k _ (by omega) (by omega)).mono ?_
  rintro e w4 ⟨rfl, hb5⟩
  rw [← HLE.out]
  have hb6 := hb4.trans (hb5.mono (Nat.le_of_lt hz3))
  have HROW4 := Lib.hid ((hb5.block _ (lt_of_heap HROW3.out)).trans HROW3.out)
  have hz4 : w.heap.size < w4.heap.size := by have := hb5.size; omega
  have hz24 : bw < w4.heap.size := by have := hb5.size; omega
  have HT4 := Lib.hid (HT3.out.below hb5 hz23)
  clear hb5 HROW3 hz3 HT3 hz23
  obtain ⟨w5, hw5⟩ : ∃ w5, w5 = w4.alloc (.cells #[.string ⟨(verbAt k).toArray⟩, .string lets] 44) := ⟨_, rfl⟩
  have HROW5 := Lib.hid (show w5.heap[w.heap.size]? = some (.cells zcells 27 (0, 0)) from by rw [hw5, Below.heap_alloc _ _ _ hz4]; exact HROW4.out)
  have hb7 : Below w.heap.size w w5 := by rw [hw5]; exact hb6.alloc (Nat.le_of_lt hz4) _
  have HT5 := Lib.hid (show TextsAt w5 bw 0 ws from by rw [hw5]; exact HT4.out.below ((Below.refl _ _).alloc (Nat.le_refl _) _) hz24)
  have hz5 : w5.heap.size = w4.heap.size + 1 := by rw [hw5]; simp
  have hx1 : w5.cell? ⟨w4.heap.size, 1, none⟩ = some (.string lets) := by rw [hw5]; exact (cell_of_row _ _ 1 _ 44 (0, 0) (heap_alloc_last _ _)).trans rfl
  have HW5 := Lib.hid hw5
  have HZ5 := Lib.hid hz5
  clear hw5 hz5 HROW4 HT4
  go_wp2_with (rw [← HW5.out]; refine wpList_store_row rfl 27 _ _ rfl w.heap.size zcells rfl rfl 27 _ HROW5.out (by kernel_rfl) rfl (cells_one _ rfl) ?_)
  refine bodyPost_ret (v := .tuple #[.agg zcells, .int .i64 71]) (results13 _ w.heap.size zcells _ 71 rfl rfl (setRow_heap _ _ _ _ _ _ HROW5.out) rfl) rfl ⟨rfl, below_setRow' hb7 _ (Nat.le_refl _) _⟩

set_option maxRecDepth 100000 in
set_option maxHeartbeats 2000000 in
theorem parse_fields (s : ByteArray) (kk : Nat) (w : World) (hg : Good w) (hs : s.size < 4294967281) (hk : kindB (Lib.cut s.data.toList [32]).1 = kk) (hkk1 : 1 ≤ kk) (hkk26 : kk < 26) (hw : allWords (wordsOf s) = true) (hc : (wordsOf s).length = 1 + (behindAt kk).length) :
    Calls Tryd.prog 13 #[.string s] w fun e w' => e = .returned (.tuple #[.agg ((parsed kk (wordsOf s)).1.cells (.slice none 0 0)), .int .i64 (parsed kk (wordsOf s)).2]) ∧ Below w.heap.size w w' := by
  have HS := Lib.hid (fun (o : Obj) => Tryd.strings_Cut_shaped s ⟨#[32]⟩ (w.alloc o) (hg.below ((Below.refl _ _).alloc (Nat.le_refl _) o)).shaped hs)
  have HK := Lib.hid hk
  have HG := Lib.hid hg
  have HN := Lib.hid hw
  clear hk hg hw
  obtain ⟨ws, hws⟩ : ∃ ws, ws = wordsOf s := ⟨_, rfl⟩
  have HWS := Lib.hid hws
  obtain ⟨lets, hlets⟩ : ∃ lets : ByteArray, lets = ⟨(behindAt kk).toArray⟩ := ⟨_, rfl⟩
  have HLE := Lib.hid hlets
  have hlsz : lets.size = (behindAt kk).length := by rw [hlets]; simp [ByteArray.size]
  have HLS := Lib.hid hlsz
  have hwle : ws.length ≤ 4294967282 := by rw [hws]; have := wordsOf_le s; omega
  have hlle : lets.size ≤ 4 := by rw [hlsz]; exact behind_len hkk26
  have hcount : ((ws.length : Int) != 1 + (lets.size : Int)) = false := by rw [hlsz, hws]; simp [bne]; omega
  have HC := Lib.hid hc
  have HSZ := Lib.hid (show ∀ x ∈ ws, x.size ≤ 4294967281 from by rw [hws]; exact words_size s hs)
  clear hws hlets hlsz hc
  go_enter Tryd.func13, Tryd.ntmps13
  go_wp2_with fail
  refine (HS.out _).mono ?_
  rintro e w1 ⟨rfl, nd, rfl⟩
  go_wp2_with fail
  refine (kindOf_any _ _).mono ?_
  rintro e w2 ⟨k, rfl, hk26, hk1, hk0, hb⟩
  obtain rfl : k = kk := by rw [← kindB_eq hk26 hk1 hk0]; exact HK.out
  have hkz : ((k : Int) == 0) = false := by simp; omega
  obtain ⟨hb2, hz, hrow⟩ := row_after hb
  have HROW := Lib.hid (show w2.heap[w.heap.size]? = some (.cells zcells 27 (0, 0)) from hrow)
  clear hk1 hk0 hb hrow HS HK
  go_wp2_with fail
  refine (dsplit_yes s _ (HG.out.below hb2) hs HN.out).mono ?_
  rintro e w3 ⟨rfl, hb3, ht3, hz23⟩
  rw [← HWS.out] at ht3 ⊢
  have hb4 := hb2.trans (hb3.mono (Nat.le_of_lt hz))
  have HROW3 := Lib.hid ((hb3.block _ (lt_of_heap HROW.out)).trans HROW.out)
  have hz3 : w.heap.size < w3.heap.size := by omega
  obtain ⟨bw, hbw⟩ : ∃ bw, bw = w2.heap.size := ⟨_, rfl⟩
  rw [← hbw] at ht3 hz23 ⊢
  have hzw : w.heap.size < bw := by omega
  have HT3 := Lib.hid ht3
  clear hb3 HROW hz hbw ht3
  go_wp2_with fail
  refine (formOf_yes k _ (by omega) (by omega)).mono ?_
  rintro e w4 ⟨rfl, hb5⟩
  rw [← HLE.out]
  have hb6 := hb4.trans (hb5.mono (Nat.le_of_lt hz3))
  have HROW4 := Lib.hid ((hb5.block _ (lt_of_heap HROW3.out)).trans HROW3.out)
  have hz4 : w.heap.size < w4.heap.size := by have := hb5.size; omega
  have hz24 : bw < w4.heap.size := by have := hb5.size; omega
  have HT4 := Lib.hid (HT3.out.below hb5 hz23)
  clear hb5 HROW3 hz3 HT3 hz23
  obtain ⟨w5, hw5⟩ : ∃ w5, w5 = w4.alloc (.cells #[.string ⟨(verbAt k).toArray⟩, .string lets] 44) := ⟨_, rfl⟩
  have HROW5 := Lib.hid (show w5.heap[w.heap.size]? = some (.cells zcells 27 (0, 0)) from by rw [hw5, Below.heap_alloc _ _ _ hz4]; exact HROW4.out)
  have hb7 : Below w.heap.size w w5 := by rw [hw5]; exact hb6.alloc (Nat.le_of_lt hz4) _
  have HT5 := Lib.hid (show TextsAt w5 bw 0 ws from by rw [hw5]; exact HT4.out.below ((Below.refl _ _).alloc (Nat.le_refl _) _) hz24)
  have hz5 : w5.heap.size = w4.heap.size + 1 := by rw [hw5]; simp
  have hx1 : w5.cell? ⟨w4.heap.size, 1, none⟩ = some (.string lets) := by rw [hw5]; exact (cell_of_row _ _ 1 _ 44 (0, 0) (heap_alloc_last _ _)).trans rfl
  have HW5 := Lib.hid hw5
  have HZ5 := Lib.hid hz5
  clear hw5 hz5 HROW4 HT4
  go_wp2_with fail
  obtain ⟨b4, hb4'⟩ : ∃ b4, b4 = w4.heap.size := ⟨_, rfl⟩
  obtain ⟨wr0, hwr⟩ : ∃ wr0, wr0 = ((w4.alloc (.cells #[.string ⟨(verbAt k).toArray⟩, .string lets] 44)).alloc (.cells #[.int .i64 (k : Int), .int .i64 0, .int .i64 0, .int .i64 0, .int .i64 0, .int .i64 0, .string ⟨#[]⟩, .slice none 0 0] 27)).iter lets 0 := ⟨_, rfl⟩
  have hin : InParse w w.heap.size (b4 + 1) (b4 + 1 + 1) bw lets ws 0 (kindC k) wr0 := by
    have h5 := HW5.out
    subst hb4'
    refine ⟨?_, ?_, ?_, ?_, ?_, ?_, by omega, by omega, by omega, by omega, by omega, Nat.le_refl _, by omega, by omega⟩
    · rw [hwr, World.iter, Below.heap_alloc _ _ _ (by simp; omega), Below.heap_alloc _ _ _ (by simp; omega), ← h5]; exact HROW5.out
    · rw [hwr, World.iter, Below.heap_alloc _ _ _ (by simp)]
      show _ = some (Obj.cells #[.int .i64 (k : Int), .int .i64 0, .int .i64 0, .int .i64 0, .int .i64 0, .int .i64 0, .string ⟨#[]⟩, .slice none 0 0] 27 (0, 0))
      have := heap_alloc_last (w4.alloc (.cells #[.string ⟨(verbAt k).toArray⟩, .string lets] 44)) (.cells #[.int .i64 (k : Int), .int .i64 0, .int .i64 0, .int .i64 0, .int .i64 0, .int .i64 0, .string ⟨#[]⟩, .slice none 0 0] 27)
      simpa using this
    · rw [hwr]
      have := World.iter_heap ((w4.alloc (.cells #[.string ⟨(verbAt k).toArray⟩, .string lets] 44)).alloc (.cells #[.int .i64 (k : Int), .int .i64 0, .int .i64 0, .int .i64 0, .int .i64 0, .int .i64 0, .string ⟨#[]⟩, .slice none 0 0] 27)) lets 0
      simpa using this
    · rw [hwr, ← h5]; exact ((hb7.alloc (by rw [HZ5.out]; omega) _).alloc (by simp; rw [HZ5.out]; omega) _)
    · have ht := HT5.out
      rw [hwr, ← h5]
      exact (ht.below ((Below.refl _ _).alloc (Nat.le_refl _) _) (by rw [HZ5.out]; omega)).below ((Below.refl _ _).alloc (Nat.le_refl _) _) (by simp; rw [HZ5.out]; omega)
    · rw [hwr]; simp [World.iter]; omega
  have HIN := Lib.hid hin
  have HWL := Lib.hid (show ws.length = 1 + (behindAt k).length by rw [HWS.out]; exact HC.out)
  rw [← hwr, ← hb4']
  clear hwr hb4' hin hb7 HROW5 HT5 hx1 HW5 HZ5 hcount hb6 hz4 hz24 hzw hb4 hb2
  go_loopw [13, 14] (fun _ _ wr => ∃ pos c, pos ≤ lets.size ∧ InParse w w.heap.size (b4 + 1) (b4 + 1 + 1) bw lets ws pos c wr ∧ Hid (c.kind = k) ∧ Hid (readAll ((behindAt k).drop pos) (ws.drop (pos + 1)) c = readAll (behindAt k) (ws.drop 1) (kindC k))) (fun _ _ wr => lets.size - wr.iterPos (b4 + 1 + 1))
  case atStart => exact ⟨0, kindC k, Nat.zero_le _, HIN.out, rfl, rfl⟩
  case round =>
    obtain ⟨pos, c, hle, h, hck, hra⟩ := hrel
    clear HIN
    have HW := Lib.hid (show wr.iterPos (b4 + 1 + 1) = pos by simp [World.iterPos, h.iter])
    by_cases hp : pos < lets.size
    · have hp' : pos < (behindAt k).length := by rw [HLS.out] at hp; exact hp
      have hq : lets[pos] = (behindAt k)[pos] := by
        have e := HLE.out
        subst e; rfl
      have hmem : (behindAt k)[pos] ∈ behindAt k := List.getElem_mem _
      have hcase := behind_letter hk26 hmem
      have hwp : pos + 1 < ws.length := by rw [HWL.out]; omega
      obtain ⟨x, hx⟩ : ∃ x, x = ws[pos + 1] := ⟨_, rfl⟩
      have hxt : ∀ W, TextsAt W bw 0 ws → W.cell? ⟨bw, pos + 1, none⟩ = some (.string x) := fun W hW => by
        have := hW (pos + 1) x (by rw [hx]; exact List.getElem?_eq_getElem hwp)
        rwa [Nat.zero_add] at this
      have HXT := Lib.hid hxt
      have hsz : x.size ≤ 9223372036854775807 := by
        have := HSZ.out x (by rw [hx]; exact List.getElem_mem _)
        omega
      have hpl : pos + 1 ≤ 9223372036854775807 := by omega
      clear hmem hxt
      rcases hcase with hc | hc | hc | hc | hc | hc
      · have hstep := Lib.hid (readAll_step (ws := ws) (c := c) hp' hwp hc hx.symm)
        have hnx : ∀ ty, (Instr.next (.pointer (some ⟨b4 + 1 + 1, 0, none⟩)) true ty).run Tryd.prog wr = .ok (.tuple #[.bool true, .int .i64 pos, .int .i32 105]) (wr.iterAt (b4 + 1 + 1) lets (pos + 1)) := fun ty => by
          have e : lets[pos] = 105 := hq.trans hc
          have := Lib.run_next_ascii_at (P := Tryd.prog) wr (b4 + 1 + 1) lets pos ty h.iter hp (by rw [e]; decide)
          rw [e] at this; exact this
        have hm1 := h.moved (pos + 1)
        have HM1 := Lib.hid hm1
        have hcell := HXT.out _ hm1.texts
        have hw1 : IntKind.i64.wrap ((pos : Int) + 1) = (pos : Int) + 1 := IntWalk.i64_in _ (by omega)
        have hw2 : 0 ≤ (pos : Int) + 1 := by omega
        have hw3 : ((pos : Int) + 1).toNat = pos + 1 := by omega
        have hw4 : (pos : Int) + 1 < (ws.length : Int) := by omega
        clear hc hq h hm1 hx
        go_wp2_with fail
        clear hnx hcell
        generalize wr.iterAt (b4 + 1 + 1) lets (pos + 1) = W1 at HM1 ⊢
        refine wp_region_still_tail 7 (by kernel_rfl) (by kernel_rfl) ?_
        change wpStill _ _ W1.drew (fun a' => wpList _ _ _ _ a' W1.drew) _ _
        have HM2 := Lib.hid (HM1.out.on (w' := W1.drew) (Below.refl _ _).drew)
        have hcell := HXT.out _ HM2.out.texts
        clear HM1
        generalize W1.drew = W2 at HM2 hcell ⊢
        simp only [List.take_succ_cons, List.take_zero, List.drop_succ_cons, List.drop_zero]
        still_step
        still_call (fieldOf_105 _)
        repeat still_step
        refine wpStill_nil ?_
        go_wp2_with fail
        refine (read_1 c _ (b4 + 1) x W2 HM2.out.row12).mono ?_
        rintro e w' ⟨rfl, wq, hbq, rfl⟩
        have hm3 := HM2.out.set hbq 1 (.int .i64 (parseD x.data.toList (mostOf 1)).1) (readF c 1 x).1 (by simp [readF, CmdN.cells])
        rw [show fieldB 105 = 1 from rfl] at hstep
        have HCK := Lib.hid ((readF_kind c 1 x).trans hck.out)
        clear HM2 hcell hbq
        generalize wq.setCell ⟨b4 + 1, 1, none⟩ _ = W3 at hm3 ⊢
        have HM3 := Lib.hid hm3
        have HW3 := Lib.hid (show W3.iterPos (b4 + 1 + 1) = pos + 1 by simp [World.iterPos, hm3.iter])
        clear hm3
        obtain ⟨cc, hcc⟩ : ∃ cc, cc = (readF c 1 x).1 := ⟨_, rfl⟩
        obtain ⟨ok, hok⟩ : ∃ ok, ok = (readF c 1 x).2 := ⟨_, rfl⟩
        rw [← hcc, ← hok] at hstep
        rw [← hcc] at HCK HM3
        rw [← hok]
        have HST := Lib.hid (hra.out.symm.trans hstep.out)
        clear hcc hok hstep hra hck
        cases ok
        · have HEND := Lib.hid (show parsed k ws = (zeroC, 71) by have := HST.out; rw [if_neg (by simp)] at this; rw [parsed, this])
          clear HST
          go_wp2_with (refine wpList_store_row rfl 27 _ _ rfl w.heap.size zcells rfl rfl 27 _ HM3.out.row2 (by kernel_rfl) rfl (cells_one _ rfl) ?_)
          rw [← HWS.out, HEND.out]
          exact bodyPost_ret (v := .tuple #[.agg zcells, .int .i64 71]) (results13 _ w.heap.size zcells _ 71 rfl rfl (setRow_heap _ _ _ _ _ _ HM3.out.row2) rfl) rfl ⟨rfl, below_setRow' HM3.out.below _ (Nat.le_refl _) _⟩
        · have HEND := Lib.hid (show readAll ((behindAt k).drop (pos + 1)) (ws.drop (pos + 1 + 1)) cc = readAll (behindAt k) (ws.drop 1) (kindC k) by have := HST.out; rw [if_pos rfl] at this; exact this.symm)
          clear HST
          go_wp2_with fail
          go_roundw
          case rel => exact ⟨pos + 1, cc, by omega, HM3.out, HCK, HEND⟩
          case measure => rw [HW3.out, HW.out]; omega
      · have hstep := Lib.hid (readAll_step (ws := ws) (c := c) hp' hwp hc hx.symm)
        have hnx : ∀ ty, (Instr.next (.pointer (some ⟨b4 + 1 + 1, 0, none⟩)) true ty).run Tryd.prog wr = .ok (.tuple #[.bool true, .int .i64 pos, .int .i32 112]) (wr.iterAt (b4 + 1 + 1) lets (pos + 1)) := fun ty => by
          have e : lets[pos] = 112 := hq.trans hc
          have := Lib.run_next_ascii_at (P := Tryd.prog) wr (b4 + 1 + 1) lets pos ty h.iter hp (by rw [e]; decide)
          rw [e] at this; exact this
        have hm1 := h.moved (pos + 1)
        have HM1 := Lib.hid hm1
        have hcell := HXT.out _ hm1.texts
        have hw1 : IntKind.i64.wrap ((pos : Int) + 1) = (pos : Int) + 1 := IntWalk.i64_in _ (by omega)
        have hw2 : 0 ≤ (pos : Int) + 1 := by omega
        have hw3 : ((pos : Int) + 1).toNat = pos + 1 := by omega
        have hw4 : (pos : Int) + 1 < (ws.length : Int) := by omega
        clear hc hq h hm1 hx
        go_wp2_with fail
        clear hnx hcell
        generalize wr.iterAt (b4 + 1 + 1) lets (pos + 1) = W1 at HM1 ⊢
        refine wp_region_still_tail 7 (by kernel_rfl) (by kernel_rfl) ?_
        change wpStill _ _ W1.drew (fun a' => wpList _ _ _ _ a' W1.drew) _ _
        have HM2 := Lib.hid (HM1.out.on (w' := W1.drew) (Below.refl _ _).drew)
        have hcell := HXT.out _ HM2.out.texts
        clear HM1
        generalize W1.drew = W2 at HM2 hcell ⊢
        simp only [List.take_succ_cons, List.take_zero, List.drop_succ_cons, List.drop_zero]
        still_step
        still_call (fieldOf_112 _)
        repeat still_step
        refine wpStill_nil ?_
        go_wp2_with fail
        refine (read_2 c _ (b4 + 1) x W2 HM2.out.row12).mono ?_
        rintro e w' ⟨rfl, wq, hbq, rfl⟩
        have hm3 := HM2.out.set hbq 2 (.int .i64 (parseD x.data.toList (mostOf 2)).1) (readF c 2 x).1 (by simp [readF, CmdN.cells])
        rw [show fieldB 112 = 2 from rfl] at hstep
        have HCK := Lib.hid ((readF_kind c 2 x).trans hck.out)
        clear HM2 hcell hbq
        generalize wq.setCell ⟨b4 + 1, 2, none⟩ _ = W3 at hm3 ⊢
        have HM3 := Lib.hid hm3
        have HW3 := Lib.hid (show W3.iterPos (b4 + 1 + 1) = pos + 1 by simp [World.iterPos, hm3.iter])
        clear hm3
        obtain ⟨cc, hcc⟩ : ∃ cc, cc = (readF c 2 x).1 := ⟨_, rfl⟩
        obtain ⟨ok, hok⟩ : ∃ ok, ok = (readF c 2 x).2 := ⟨_, rfl⟩
        rw [← hcc, ← hok] at hstep
        rw [← hcc] at HCK HM3
        rw [← hok]
        have HST := Lib.hid (hra.out.symm.trans hstep.out)
        clear hcc hok hstep hra hck
        cases ok
        · have HEND := Lib.hid (show parsed k ws = (zeroC, 71) by have := HST.out; rw [if_neg (by simp)] at this; rw [parsed, this])
          clear HST
          go_wp2_with (refine wpList_store_row rfl 27 _ _ rfl w.heap.size zcells rfl rfl 27 _ HM3.out.row2 (by kernel_rfl) rfl (cells_one _ rfl) ?_)
          rw [← HWS.out, HEND.out]
          exact bodyPost_ret (v := .tuple #[.agg zcells, .int .i64 71]) (results13 _ w.heap.size zcells _ 71 rfl rfl (setRow_heap _ _ _ _ _ _ HM3.out.row2) rfl) rfl ⟨rfl, below_setRow' HM3.out.below _ (Nat.le_refl _) _⟩
        · have HEND := Lib.hid (show readAll ((behindAt k).drop (pos + 1)) (ws.drop (pos + 1 + 1)) cc = readAll (behindAt k) (ws.drop 1) (kindC k) by have := HST.out; rw [if_pos rfl] at this; exact this.symm)
          clear HST
          go_wp2_with fail
          go_roundw
          case rel => exact ⟨pos + 1, cc, by omega, HM3.out, HCK, HEND⟩
          case measure => rw [HW3.out, HW.out]; omega
      · have hstep := Lib.hid (readAll_step (ws := ws) (c := c) hp' hwp hc hx.symm)
        have hnx : ∀ ty, (Instr.next (.pointer (some ⟨b4 + 1 + 1, 0, none⟩)) true ty).run Tryd.prog wr = .ok (.tuple #[.bool true, .int .i64 pos, .int .i32 100]) (wr.iterAt (b4 + 1 + 1) lets (pos + 1)) := fun ty => by
          have e : lets[pos] = 100 := hq.trans hc
          have := Lib.run_next_ascii_at (P := Tryd.prog) wr (b4 + 1 + 1) lets pos ty h.iter hp (by rw [e]; decide)
          rw [e] at this; exact this
        have hm1 := h.moved (pos + 1)
        have HM1 := Lib.hid hm1
        have hcell := HXT.out _ hm1.texts
        have hw1 : IntKind.i64.wrap ((pos : Int) + 1) = (pos : Int) + 1 := IntWalk.i64_in _ (by omega)
        have hw2 : 0 ≤ (pos : Int) + 1 := by omega
        have hw3 : ((pos : Int) + 1).toNat = pos + 1 := by omega
        have hw4 : (pos : Int) + 1 < (ws.length : Int) := by omega
        clear hc hq h hm1 hx
        go_wp2_with fail
        clear hnx hcell
        generalize wr.iterAt (b4 + 1 + 1) lets (pos + 1) = W1 at HM1 ⊢
        refine wp_region_still_tail 7 (by kernel_rfl) (by kernel_rfl) ?_
        change wpStill _ _ W1.drew (fun a' => wpList _ _ _ _ a' W1.drew) _ _
        have HM2 := Lib.hid (HM1.out.on (w' := W1.drew) (Below.refl _ _).drew)
        have hcell := HXT.out _ HM2.out.texts
        clear HM1
        generalize W1.drew = W2 at HM2 hcell ⊢
        simp only [List.take_succ_cons, List.take_zero, List.drop_succ_cons, List.drop_zero]
        still_step
        still_call (fieldOf_100 _)
        repeat still_step
        refine wpStill_nil ?_
        go_wp2_with fail
        refine (read_3 c _ (b4 + 1) x W2 HM2.out.row12).mono ?_
        rintro e w' ⟨rfl, wq, hbq, rfl⟩
        have hm3 := HM2.out.set hbq 3 (.int .i64 (parseD x.data.toList (mostOf 3)).1) (readF c 3 x).1 (by simp [readF, CmdN.cells])
        rw [show fieldB 100 = 3 from rfl] at hstep
        have HCK := Lib.hid ((readF_kind c 3 x).trans hck.out)
        clear HM2 hcell hbq
        generalize wq.setCell ⟨b4 + 1, 3, none⟩ _ = W3 at hm3 ⊢
        have HM3 := Lib.hid hm3
        have HW3 := Lib.hid (show W3.iterPos (b4 + 1 + 1) = pos + 1 by simp [World.iterPos, hm3.iter])
        clear hm3
        obtain ⟨cc, hcc⟩ : ∃ cc, cc = (readF c 3 x).1 := ⟨_, rfl⟩
        obtain ⟨ok, hok⟩ : ∃ ok, ok = (readF c 3 x).2 := ⟨_, rfl⟩
        rw [← hcc, ← hok] at hstep
        rw [← hcc] at HCK HM3
        rw [← hok]
        have HST := Lib.hid (hra.out.symm.trans hstep.out)
        clear hcc hok hstep hra hck
        cases ok
        · have HEND := Lib.hid (show parsed k ws = (zeroC, 71) by have := HST.out; rw [if_neg (by simp)] at this; rw [parsed, this])
          clear HST
          go_wp2_with (refine wpList_store_row rfl 27 _ _ rfl w.heap.size zcells rfl rfl 27 _ HM3.out.row2 (by kernel_rfl) rfl (cells_one _ rfl) ?_)
          rw [← HWS.out, HEND.out]
          exact bodyPost_ret (v := .tuple #[.agg zcells, .int .i64 71]) (results13 _ w.heap.size zcells _ 71 rfl rfl (setRow_heap _ _ _ _ _ _ HM3.out.row2) rfl) rfl ⟨rfl, below_setRow' HM3.out.below _ (Nat.le_refl _) _⟩
        · have HEND := Lib.hid (show readAll ((behindAt k).drop (pos + 1)) (ws.drop (pos + 1 + 1)) cc = readAll (behindAt k) (ws.drop 1) (kindC k) by have := HST.out; rw [if_pos rfl] at this; exact this.symm)
          clear HST
          go_wp2_with fail
          go_roundw
          case rel => exact ⟨pos + 1, cc, by omega, HM3.out, HCK, HEND⟩
          case measure => rw [HW3.out, HW.out]; omega
      · have hstep := Lib.hid (readAll_step (ws := ws) (c := c) hp' hwp hc hx.symm)
        have hnx : ∀ ty, (Instr.next (.pointer (some ⟨b4 + 1 + 1, 0, none⟩)) true ty).run Tryd.prog wr = .ok (.tuple #[.bool true, .int .i64 pos, .int .i32 116]) (wr.iterAt (b4 + 1 + 1) lets (pos + 1)) := fun ty => by
          have e : lets[pos] = 116 := hq.trans hc
          have := Lib.run_next_ascii_at (P := Tryd.prog) wr (b4 + 1 + 1) lets pos ty h.iter hp (by rw [e]; decide)
          rw [e] at this; exact this
        have hm1 := h.moved (pos + 1)
        have HM1 := Lib.hid hm1
        have hcell := HXT.out _ hm1.texts
        have hw1 : IntKind.i64.wrap ((pos : Int) + 1) = (pos : Int) + 1 := IntWalk.i64_in _ (by omega)
        have hw2 : 0 ≤ (pos : Int) + 1 := by omega
        have hw3 : ((pos : Int) + 1).toNat = pos + 1 := by omega
        have hw4 : (pos : Int) + 1 < (ws.length : Int) := by omega
        clear hc hq h hm1 hx
        go_wp2_with fail
        clear hnx hcell
        generalize wr.iterAt (b4 + 1 + 1) lets (pos + 1) = W1 at HM1 ⊢
        refine wp_region_still_tail 7 (by kernel_rfl) (by kernel_rfl) ?_
        change wpStill _ _ W1.drew (fun a' => wpList _ _ _ _ a' W1.drew) _ _
        have HM2 := Lib.hid (HM1.out.on (w' := W1.drew) (Below.refl _ _).drew)
        have hcell := HXT.out _ HM2.out.texts
        clear HM1
        generalize W1.drew = W2 at HM2 hcell ⊢
        simp only [List.take_succ_cons, List.take_zero, List.drop_succ_cons, List.drop_zero]
        still_step
        still_call (fieldOf_116 _)
        repeat still_step
        refine wpStill_nil ?_
        go_wp2_with fail
        refine (read_4 c _ (b4 + 1) x W2 HM2.out.row12).mono ?_
        rintro e w' ⟨rfl, wq, hbq, rfl⟩
        have hm3 := HM2.out.set hbq 4 (.int .i64 (parseD x.data.toList (mostOf 4)).1) (readF c 4 x).1 (by simp [readF, CmdN.cells])
        rw [show fieldB 116 = 4 from rfl] at hstep
        have HCK := Lib.hid ((readF_kind c 4 x).trans hck.out)
        clear HM2 hcell hbq
        generalize wq.setCell ⟨b4 + 1, 4, none⟩ _ = W3 at hm3 ⊢
        have HM3 := Lib.hid hm3
        have HW3 := Lib.hid (show W3.iterPos (b4 + 1 + 1) = pos + 1 by simp [World.iterPos, hm3.iter])
        clear hm3
        obtain ⟨cc, hcc⟩ : ∃ cc, cc = (readF c 4 x).1 := ⟨_, rfl⟩
        obtain ⟨ok, hok⟩ : ∃ ok, ok = (readF c 4 x).2 := ⟨_, rfl⟩
        rw [← hcc, ← hok] at hstep
        rw [← hcc] at HCK HM3
        rw [← hok]
        have HST := Lib.hid (hra.out.symm.trans hstep.out)
        clear hcc hok hstep hra hck
        cases ok
        · have HEND := Lib.hid (show parsed k ws = (zeroC, 71) by have := HST.out; rw [if_neg (by simp)] at this; rw [parsed, this])
          clear HST
          go_wp2_with (refine wpList_store_row rfl 27 _ _ rfl w.heap.size zcells rfl rfl 27 _ HM3.out.row2 (by kernel_rfl) rfl (cells_one _ rfl) ?_)
          rw [← HWS.out, HEND.out]
          exact bodyPost_ret (v := .tuple #[.agg zcells, .int .i64 71]) (results13 _ w.heap.size zcells _ 71 rfl rfl (setRow_heap _ _ _ _ _ _ HM3.out.row2) rfl) rfl ⟨rfl, below_setRow' HM3.out.below _ (Nat.le_refl _) _⟩
        · have HEND := Lib.hid (show readAll ((behindAt k).drop (pos + 1)) (ws.drop (pos + 1 + 1)) cc = readAll (behindAt k) (ws.drop 1) (kindC k) by have := HST.out; rw [if_pos rfl] at this; exact this.symm)
          clear HST
          go_wp2_with fail
          go_roundw
          case rel => exact ⟨pos + 1, cc, by omega, HM3.out, HCK, HEND⟩
          case measure => rw [HW3.out, HW.out]; omega
      · have hstep := Lib.hid (readAll_step (ws := ws) (c := c) hp' hwp hc hx.symm)
        have hnx : ∀ ty, (Instr.next (.pointer (some ⟨b4 + 1 + 1, 0, none⟩)) true ty).run Tryd.prog wr = .ok (.tuple #[.bool true, .int .i64 pos, .int .i32 110]) (wr.iterAt (b4 + 1 + 1) lets (pos + 1)) := fun ty => by
          have e : lets[pos] = 110 := hq.trans hc
          have := Lib.run_next_ascii_at (P := Tryd.prog) wr (b4 + 1 + 1) lets pos ty h.iter hp (by rw [e]; decide)
          rw [e] at this; exact this
        have hm1 := h.moved (pos + 1)
        have HM1 := Lib.hid hm1
        have hcell := HXT.out _ hm1.texts
        have hw1 : IntKind.i64.wrap ((pos : Int) + 1) = (pos : Int) + 1 := IntWalk.i64_in _ (by omega)
        have hw2 : 0 ≤ (pos : Int) + 1 := by omega
        have hw3 : ((pos : Int) + 1).toNat = pos + 1 := by omega
        have hw4 : (pos : Int) + 1 < (ws.length : Int) := by omega
        clear hc hq h hm1 hx
        go_wp2_with fail
        clear hnx hcell
        generalize wr.iterAt (b4 + 1 + 1) lets (pos + 1) = W1 at HM1 ⊢
        refine wp_region_still_tail 7 (by kernel_rfl) (by kernel_rfl) ?_
        change wpStill _ _ W1.drew (fun a' => wpList _ _ _ _ a' W1.drew) _ _
        have HM2 := Lib.hid (HM1.out.on (w' := W1.drew) (Below.refl _ _).drew)
        have hcell := HXT.out _ HM2.out.texts
        clear HM1
        generalize W1.drew = W2 at HM2 hcell ⊢
        simp only [List.take_succ_cons, List.take_zero, List.drop_succ_cons, List.drop_zero]
        still_step
        still_call (fieldOf_110 _)
        repeat still_step
        refine wpStill_nil ?_
        go_wp2_with fail
        refine (read_5 c _ (b4 + 1) x W2 HM2.out.row12).mono ?_
        rintro e w' ⟨rfl, wq, hbq, rfl⟩
        have hm3 := HM2.out.set hbq 5 (.int .i64 (parseD x.data.toList (mostOf 5)).1) (readF c 5 x).1 (by simp [readF, CmdN.cells])
        rw [show fieldB 110 = 5 from rfl] at hstep
        have HCK := Lib.hid ((readF_kind c 5 x).trans hck.out)
        clear HM2 hcell hbq
        generalize wq.setCell ⟨b4 + 1, 5, none⟩ _ = W3 at hm3 ⊢
        have HM3 := Lib.hid hm3
        have HW3 := Lib.hid (show W3.iterPos (b4 + 1 + 1) = pos + 1 by simp [World.iterPos, hm3.iter])
        clear hm3
        obtain ⟨cc, hcc⟩ : ∃ cc, cc = (readF c 5 x).1 := ⟨_, rfl⟩
        obtain ⟨ok, hok⟩ : ∃ ok, ok = (readF c 5 x).2 := ⟨_, rfl⟩
        rw [← hcc, ← hok] at hstep
        rw [← hcc] at HCK HM3
        rw [← hok]
        have HST := Lib.hid (hra.out.symm.trans hstep.out)
        clear hcc hok hstep hra hck
        cases ok
        · have HEND := Lib.hid (show parsed k ws = (zeroC, 71) by have := HST.out; rw [if_neg (by simp)] at this; rw [parsed, this])
          clear HST
          go_wp2_with (refine wpList_store_row rfl 27 _ _ rfl w.heap.size zcells rfl rfl 27 _ HM3.out.row2 (by kernel_rfl) rfl (cells_one _ rfl) ?_)
          rw [← HWS.out, HEND.out]
          exact bodyPost_ret (v := .tuple #[.agg zcells, .int .i64 71]) (results13 _ w.heap.size zcells _ 71 rfl rfl (setRow_heap _ _ _ _ _ _ HM3.out.row2) rfl) rfl ⟨rfl, below_setRow' HM3.out.below _ (Nat.le_refl _) _⟩
        · have HEND := Lib.hid (show readAll ((behindAt k).drop (pos + 1)) (ws.drop (pos + 1 + 1)) cc = readAll (behindAt k) (ws.drop 1) (kindC k) by have := HST.out; rw [if_pos rfl] at this; exact this.symm)
          clear HST
          go_wp2_with fail
          go_roundw
          case rel => exact ⟨pos + 1, cc, by omega, HM3.out, HCK, HEND⟩
          case measure => rw [HW3.out, HW.out]; omega
      · have hstep := Lib.hid (readAll_step (ws := ws) (c := c) hp' hwp hc hx.symm)
        have hnx : ∀ ty, (Instr.next (.pointer (some ⟨b4 + 1 + 1, 0, none⟩)) true ty).run Tryd.prog wr = .ok (.tuple #[.bool true, .int .i64 pos, .int .i32 117]) (wr.iterAt (b4 + 1 + 1) lets (pos + 1)) := fun ty => by
          have e : lets[pos] = 117 := hq.trans hc
          have := Lib.run_next_ascii_at (P := Tryd.prog) wr (b4 + 1 + 1) lets pos ty h.iter hp (by rw [e]; decide)
          rw [e] at this; exact this
        have hm1 := h.moved (pos + 1)
        have HM1 := Lib.hid hm1
        have hcell := HXT.out _ hm1.texts
        have hw1 : IntKind.i64.wrap ((pos : Int) + 1) = (pos : Int) + 1 := IntWalk.i64_in _ (by omega)
        have hw2 : 0 ≤ (pos : Int) + 1 := by omega
        have hw3 : ((pos : Int) + 1).toNat = pos + 1 := by omega
        have hw4 : (pos : Int) + 1 < (ws.length : Int) := by omega
        clear hc hq h hm1 hx
        go_wp2_with fail
        clear hnx hcell
        generalize wr.iterAt (b4 + 1 + 1) lets (pos + 1) = W1 at HM1 ⊢
        refine wp_region_still_tail 7 (by kernel_rfl) (by kernel_rfl) ?_
        change wpStill _ _ W1.drew (fun a' => wpList _ _ _ _ a' W1.drew) _ _
        have HM2 := Lib.hid (HM1.out.on (w' := W1.drew) (Below.refl _ _).drew)
        have hcell := HXT.out _ HM2.out.texts
        clear HM1
        generalize W1.drew = W2 at HM2 hcell ⊢
        simp only [List.take_succ_cons, List.take_zero, List.drop_succ_cons, List.drop_zero]
        still_step
        still_call (fieldOf_117 _)
        repeat still_step
        refine wpStill_nil ?_
        go_wp2_with fail
        refine (read_tube c _ (b4 + 1) x W2 hsz HM2.out.row12).mono ?_
        rintro e w' ⟨rfl, rfl⟩
        have hm3 := HM2.out.set (Below.refl _ _) 6 (.string x) (readF c 6 x).1 (by simp [readF, CmdN.cells])
        rw [show fieldB 117 = 6 from rfl] at hstep
        have HCK := Lib.hid ((readF_kind c 6 x).trans hck.out)
        clear HM2 hcell 
        generalize W2.setCell ⟨b4 + 1, 6, none⟩ _ = W3 at hm3 ⊢
        have HM3 := Lib.hid hm3
        have HW3 := Lib.hid (show W3.iterPos (b4 + 1 + 1) = pos + 1 by simp [World.iterPos, hm3.iter])
        clear hm3
        obtain ⟨cc, hcc⟩ : ∃ cc, cc = (readF c 6 x).1 := ⟨_, rfl⟩
        obtain ⟨ok, hok⟩ : ∃ ok, ok = (readF c 6 x).2 := ⟨_, rfl⟩
        rw [← hcc, ← hok] at hstep
        rw [← hcc] at HCK HM3
        rw [← hok]
        have HST := Lib.hid (hra.out.symm.trans hstep.out)
        clear hcc hok hstep hra hck
        cases ok
        · have HEND := Lib.hid (show parsed k ws = (zeroC, 71) by have := HST.out; rw [if_neg (by simp)] at this; rw [parsed, this])
          clear HST
          go_wp2_with (refine wpList_store_row rfl 27 _ _ rfl w.heap.size zcells rfl rfl 27 _ HM3.out.row2 (by kernel_rfl) rfl (cells_one _ rfl) ?_)
          rw [← HWS.out, HEND.out]
          exact bodyPost_ret (v := .tuple #[.agg zcells, .int .i64 71]) (results13 _ w.heap.size zcells _ 71 rfl rfl (setRow_heap _ _ _ _ _ _ HM3.out.row2) rfl) rfl ⟨rfl, below_setRow' HM3.out.below _ (Nat.le_refl _) _⟩
        · have HEND := Lib.hid (show readAll ((behindAt k).drop (pos + 1)) (ws.drop (pos + 1 + 1)) cc = readAll (behindAt k) (ws.drop 1) (kindC k) by have := HST.out; rw [if_pos rfl] at this; exact this.symm)
          clear HST
          go_wp2_with fail
          go_roundw
          case rel => exact ⟨pos + 1, cc, by omega, HM3.out, HCK, HEND⟩
          case measure => rw [HW3.out, HW.out]; omega
    · have hnx : ∀ ty, (Instr.next (.pointer (some ⟨b4 + 1 + 1, 0, none⟩)) true ty).run Tryd.prog wr = .ok (.tuple #[.bool false]) wr := fun ty => Lib.run_next_end_at wr (b4 + 1 + 1) lets pos ty h.iter hp
      have hlast : readAll (behindAt k) (ws.drop 1) (kindC k) = some c := by
        have e := hra.out
        rw [List.drop_eq_nil_of_le (by rw [← HLS.out]; omega), readAll] at e
        exact e.symm
      have HEND := Lib.hid (show parsed k ws = (ttrOne c, 0) by rw [parsed, hlast])
      have ht4 : wr.cell? ⟨b4 + 1, 4, none⟩ = some (.int .i64 c.ttr) := (cell_of_row _ _ 4 _ 27 (0, 0) h.row12).trans rfl
      have hf4 : wr.frozen? ⟨b4 + 1, 4, none⟩ = false := frozen_of_row _ _ 4 _ 27 h.row12
      have HN1 := Lib.hid h
      clear hlast hra h
      by_cases hone : k = 1 ∧ c.ttr = 0
      · have hb1 : ((k : Int) == 1) = true := by simp; omega
        have hb2 : (c.ttr == 0) = true := by simp; omega
        have hm := HN1.out.set (Below.refl _ _) 4 (.int .i64 1) (ttrOne c) (by rw [ttrOne, if_pos ⟨by rw [hck.out, hone.1]; rfl, hone.2⟩]; rfl)
        have HM := Lib.hid hm
        clear hm hone
        go_wp2_with (first | (refine wpList_load_row rfl 27 _ rfl (b4 + 1) rfl 27 _ (0, 0) _ HM.out.row12 Tryd.underlying27 rfl (by kernel_rfl) ?_) | (refine wpList_store_row rfl 27 _ _ rfl w.heap.size _ rfl rfl 27 _ HM.out.row2 (by kernel_rfl) rfl (cells_one _ rfl) ?_))
        rw [← HWS.out, HEND.out]
        exact bodyPost_ret (v := .tuple #[.agg _, .int .i64 0]) (results13 _ w.heap.size _ _ 0 rfl rfl (setRow_heap _ _ _ _ _ _ HM.out.row2) rfl) rfl ⟨rfl, below_setRow' HM.out.below _ (Nat.le_refl _) _⟩
      · have he : ttrOne c = c := by rw [ttrOne, if_neg (fun e => hone ⟨by have := e.1; rw [hck.out] at this; omega, e.2⟩)]
        rw [he] at HEND
        clear he
        by_cases hk1 : k = 1
        · have hb1 : ((k : Int) == 1) = true := by simp; omega
          have hb2 : (c.ttr == 0) = false := by simp; omega
          clear hk1 hone
          go_wp2_with (first | (refine wpList_load_row rfl 27 _ rfl (b4 + 1) rfl 27 _ (0, 0) _ HN1.out.row12 Tryd.underlying27 rfl (by kernel_rfl) ?_) | (refine wpList_store_row rfl 27 _ _ rfl w.heap.size _ rfl rfl 27 _ HN1.out.row2 (by kernel_rfl) rfl (cells_one _ rfl) ?_))
          rw [← HWS.out, HEND.out]
          exact bodyPost_ret (v := .tuple #[.agg _, .int .i64 0]) (results13 _ w.heap.size _ _ 0 rfl rfl (setRow_heap _ _ _ _ _ _ HN1.out.row2) rfl) rfl ⟨rfl, below_setRow' HN1.out.below _ (Nat.le_refl _) _⟩
        · have hb1 : ((k : Int) == 1) = false := by simp; omega
          clear hk1 hone
          go_wp2_with (first | (refine wpList_load_row rfl 27 _ rfl (b4 + 1) rfl 27 _ (0, 0) _ HN1.out.row12 Tryd.underlying27 rfl (by kernel_rfl) ?_) | (refine wpList_store_row rfl 27 _ _ rfl w.heap.size _ rfl rfl 27 _ HN1.out.row2 (by kernel_rfl) rfl (cells_one _ rfl) ?_))
          rw [← HWS.out, HEND.out]
          exact bodyPost_ret (v := .tuple #[.agg _, .int .i64 0]) (results13 _ w.heap.size _ _ 0 rfl rfl (setRow_heap _ _ _ _ _ _ HN1.out.row2) rfl) rfl ⟨rfl, below_setRow' HN1.out.below _ (Nat.le_refl _) _⟩
end Go.Proofs.YtlhkelgkkfnfoaaDoor
