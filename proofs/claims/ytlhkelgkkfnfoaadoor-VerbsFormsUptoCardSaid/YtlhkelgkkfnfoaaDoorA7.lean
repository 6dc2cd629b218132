/- verbs.Print: a command's line, where there is one. -/
import Derived.Test.YtlhkelgkkfnfoaaDoorA6
namespace Go.Proofs.YtlhkelgkkfnfoaaDoor
open Go.RowKit

theorem behind_in : ((List.range 26).all fun k => (behindAt k).all fun b => [105, 112, 100, 116, 110, 117].contains b) = true := by kernel_rfl
theorem behind_letter {k : Nat} (h : k < 26) {b : UInt8} (hb : b ∈ behindAt k) : b = 105 ∨ b = 112 ∨ b = 100 ∨ b = 116 ∨ b = 110 ∨ b = 117 := by
  have h1 := List.all_eq_true.1 behind_in k (List.mem_range.2 h)
  have h2 := List.all_eq_true.1 h1 b hb
  simpa using h2
theorem behind_short : ((List.range 26).all fun k => decide ((behindAt k).length ≤ 4)) = true := by kernel_rfl
theorem behind_len {k : Nat} (h : k < 26) : (behindAt k).length ≤ 4 := by
  have h1 := List.all_eq_true.1 behind_short k (List.mem_range.2 h)
  simpa using h1
theorem hasL_of {k : Nat} {b : UInt8} (hb : b ∈ behindAt k) : hasL k b.toNat = true := List.any_eq_true.2 ⟨b, hb, by simp⟩
theorem right_at {k : Nat} {c : CmdN} (h : rightK k c = true) {j : Nat} (hj : j < 6) : okAt k c j = true := by
  rw [rightK, Bool.and_eq_true] at h
  have h6 := h.1
  have hj6 : j = 0 ∨ j = 1 ∨ j = 2 ∨ j = 3 ∨ j = 4 ∨ j = 5 := by omega
  simp only [okTo, Bool.and_eq_true, Bool.true_and] at h6
  rcases hj6 with rfl | rfl | rfl | rfl | rfl | rfl
  · exact h6.1.1.1.1.1
  · exact h6.1.1.1.1.2
  · exact h6.1.1.1.2
  · exact h6.1.1.2
  · exact h6.1.2
  · exact h6.2
theorem num_of {n m : Int} (h : numOk true n m = true) : 0 ≤ n ∧ n ≤ m := by simpa [numOk] using h
theorem mostOf_le (f : Int) : mostOf f ≤ 9223372036854775807 := by unfold mostOf; split <;> omega

theorem wordL_105 (c : CmdN) : wordL c 105 = ⟨(printD c.id).toArray⟩ := by simp [wordL]
theorem field_105 {k : Nat} {c : CmdN} (h : rightK k c = true) (hb : (105 : UInt8) ∈ behindAt k) : 0 ≤ c.id ∧ c.id ≤ 9223372036854775807 := by
  have h2 : numOk (hasL k 105) c.id (mostOf 1) = true := right_at h (j := 0) (by omega)
  rw [show hasL k 105 = true from hasL_of hb] at h2
  have := num_of h2
  have := mostOf_le 1
  exact ⟨by omega, by omega⟩
theorem wordL_112 (c : CmdN) : wordL c 112 = ⟨(printD c.pri).toArray⟩ := by simp [wordL]
theorem field_112 {k : Nat} {c : CmdN} (h : rightK k c = true) (hb : (112 : UInt8) ∈ behindAt k) : 0 ≤ c.pri ∧ c.pri ≤ 9223372036854775807 := by
  have h2 : numOk (hasL k 112) c.pri (mostOf 2) = true := right_at h (j := 1) (by omega)
  rw [show hasL k 112 = true from hasL_of hb] at h2
  have := num_of h2
  have := mostOf_le 2
  exact ⟨by omega, by omega⟩
theorem wordL_100 (c : CmdN) : wordL c 100 = ⟨(printD c.delay).toArray⟩ := by simp [wordL]
theorem field_100 {k : Nat} {c : CmdN} (h : rightK k c = true) (hb : (100 : UInt8) ∈ behindAt k) : 0 ≤ c.delay ∧ c.delay ≤ 9223372036854775807 := by
  have h2 : numOk (hasL k 100) c.delay (mostOf 3) = true := right_at h (j := 2) (by omega)
  rw [show hasL k 100 = true from hasL_of hb] at h2
  have := num_of h2
  have := mostOf_le 3
  exact ⟨by omega, by omega⟩
theorem wordL_116 (c : CmdN) : wordL c 116 = ⟨(printD c.ttr).toArray⟩ := by simp [wordL]
theorem field_116 {k : Nat} {c : CmdN} (h : rightK k c = true) (hb : (116 : UInt8) ∈ behindAt k) : 0 ≤ c.ttr ∧ c.ttr ≤ 9223372036854775807 := by
  have h2 : numOk (hasL k 116) c.ttr (mostOf 4) = true := right_at h (j := 3) (by omega)
  rw [show hasL k 116 = true from hasL_of hb] at h2
  have := num_of h2
  have := mostOf_le 4
  exact ⟨by omega, by omega⟩
theorem wordL_110 (c : CmdN) : wordL c 110 = ⟨(printD c.number).toArray⟩ := by simp [wordL]
theorem field_110 {k : Nat} {c : CmdN} (h : rightK k c = true) (hb : (110 : UInt8) ∈ behindAt k) : 0 ≤ c.number ∧ c.number ≤ 9223372036854775807 := by
  have h2 : numOk (hasL k 110) c.number (mostOf 5) = true := right_at h (j := 4) (by omega)
  rw [show hasL k 110 = true from hasL_of hb] at h2
  have := num_of h2
  have := mostOf_le 5
  exact ⟨by omega, by omega⟩
theorem wordL_117 (c : CmdN) : wordL c 117 = c.tube := by simp [wordL]

theorem wordsL_length (k : Nat) (c : CmdN) : (wordsL k c).length = (behindAt k).length + 1 := by simp [wordsL]
theorem wordsL_take {k : Nat} {c : CmdN} {pos : Nat} {b : UInt8} (h : pos < (behindAt k).length) (hb : (behindAt k)[pos] = b) :
    ((wordsL k c).take (pos + 2)).map Value.string = ((wordsL k c).take (pos + 1)).map Value.string ++ [.string (wordL c b)] := by
  rw [wordsL, List.take_succ_cons, List.take_succ_cons, List.take_succ_eq_append_getElem (by simpa using h)]
  simp [hb]

theorem one_new (w : World) (x : Value) (e : TypeId) : ∀ (j : Nat) (u : Value), [x][j]? = some u → (w.alloc (.cells #[x] e)).cell? ((⟨w.heap.size, 0, none⟩ : Addr).add j) = some u := by
  intro j u hu
  have hj : j = 0 := by
    have := (List.getElem?_eq_some_iff.1 hu).1
    simp at this; exact this
  subst hj
  simp at hu
  subst hu
  show (w.alloc (.cells #[x] e)).cell? ⟨w.heap.size, 0, none⟩ = _
  rw [cell_of_row _ _ 0 _ e (0, 0) (heap_alloc_last w _)]
  rfl
theorem one_string (x : ByteArray) : ∀ u, u ∈ [Value.string x] → u.oneCell' = true := by
  intro u hu
  simp at hu
  subst hu
  rfl
theorem texts_own {w : World} {base n : Nat} {v : Value} {xs : List ByteArray} (h : w.ownsRow base 9 1 v n (xs.map Value.string)) (hn : 0 < n) : ∃ g cap, v = .slice (some ⟨g, 0, none⟩) xs.length cap ∧ xs.length ≤ cap ∧ g < w.heap.size ∧ TextsAt w g 0 xs ∧ xs.length = n := by
  have hl : xs.length = n := by simpa using h.1
  rcases h.2 with ⟨-, h0⟩ | ⟨g, cap, cur, rfl, hg, hh, hc, -, hs, ht⟩
  · omega
  · refine ⟨g, cap, by rw [hl], by omega, lt_of_heap hh, fun j x hx => ?_, hl⟩
    rw [Nat.zero_add, cell_of_row _ _ _ _ 9 _ hh]
    have hj : j < xs.length := (List.getElem?_eq_some_iff.1 hx).1
    have : (List.take (n * 1) cur.toList)[j]? = (xs.map Value.string)[j]? := by rw [ht]
    rw [List.getElem?_take_of_lt (by omega)] at this
    simpa [hx] using this

set_option maxRecDepth 100000 in
set_option maxHeartbeats 2000000 in
theorem print_yes (k : Nat) (c : CmdN) (a : Option Addr) (n m : Nat) (w : World) (hk : c.kind = k) (h1 : 1 ≤ k) (h2 : k ≤ 25) (hg : Good w) (ht : c.tube.size ≤ 9223372036854775807) (hr : rightK k c = true) (hn : (!(k == 1) && decide (0 < n)) = false)
    (hw : allWords (wordsL k c) = true) (hl : (lineL k c).length ≤ 140737488355328) :
    Calls Tryd.prog 17 #[.agg (c.cells (.slice a n m))] w fun e w' => e = .returned (.tuple #[.string ⟨(lineL k c).toArray⟩, .int .i64 0]) ∧ Below w.heap.size w w' := by
  have HR := Lib.hid (right_yes k c (.slice a n m) (w.alloc (.cells (c.cells (.slice a n m)) 27)) hk h1 h2 ht)
  rw [hr] at HR
  have hk26 : k < 26 := by omega
  have HFin := Lib.hid (fun (b o cp : Nat) (w' : World) => djoin_any b o cp (wordsL k c) w')
  have HT := Lib.hid (show ∀ (pos : Nat) (b : UInt8) (h : pos < (behindAt k).length), (behindAt k)[pos] = b → _ from fun pos b h hb => wordsL_take (c := c) h hb)
  have HL := Lib.hid (wordsL_length k c)
  have H0 := Lib.hid (show ((wordsL k c).take 1).map Value.string = [.string ⟨(verbAt k).toArray⟩] from rfl)
  have Hall := Lib.hid hw
  have Hline := Lib.hid hl
  have W105 := Lib.hid (wordL_105 c)
  have F105 := Lib.hid (fun hb => field_105 (k := k) (c := c) hr hb)
  have W112 := Lib.hid (wordL_112 c)
  have F112 := Lib.hid (fun hb => field_112 (k := k) (c := c) hr hb)
  have W100 := Lib.hid (wordL_100 c)
  have F100 := Lib.hid (fun hb => field_100 (k := k) (c := c) hr hb)
  have W116 := Lib.hid (wordL_116 c)
  have F116 := Lib.hid (fun hb => field_116 (k := k) (c := c) hr hb)
  have W110 := Lib.hid (wordL_110 c)
  have F110 := Lib.hid (fun hb => field_110 (k := k) (c := c) hr hb)
  have W117 := Lib.hid (wordL_117 c)
  obtain ⟨lw, hlw⟩ : ∃ lw, lw = wordL c := ⟨_, rfl⟩
  obtain ⟨ws, hws⟩ : ∃ ws, ws = wordsL k c := ⟨_, rfl⟩
  obtain ⟨ln, hln⟩ : ∃ ln, ln = lineL k c := ⟨_, rfl⟩
  have hln2 : ln = Lib.join (ws.map fun x => x.data.toList) [32] := by rw [hln, hws]; rfl
  have HLN := Lib.hid hln2
  rw [← hln] at Hline ⊢
  rw [← hws] at HFin HL H0 Hall
  have HT' : Hid (∀ (pos : Nat) (b : UInt8) (h : pos < (behindAt k).length), (behindAt k)[pos] = b → (ws.take (pos + 2)).map Value.string = (ws.take (pos + 1)).map Value.string ++ [.string (lw b)]) := Lib.hid (by
    intro pos b h hb; rw [hws, hlw]; exact HT.out pos b h hb)
  rw [← hlw] at W105
  rw [← hlw] at W112
  rw [← hlw] at W100
  rw [← hlw] at W116
  rw [← hlw] at W110
  rw [← hlw] at W117
  clear hln2 hlw hws hln HT hw hl hr
  obtain ⟨kind, id, pri, delay, ttr, number, tube⟩ := c
  simp only at hk ht
  subst hk
  simp only [CmdN.cells] at HR ⊢
  have hd : ((k : Int) != 1) = false ∨ (((k : Int) != 1) = true ∧ ¬ 0 < (n : Int)) := by
    by_cases e : k = 1
    · exact .inl (by simp [e])
    · refine .inr ⟨by simp [bne]; omega, ?_⟩
      simp [e] at hn; omega
  have HG := Lib.hid hg
  clear hn hg
  have hc8 : (#[.int .i64 (k : Int), .int .i64 id, .int .i64 pri, .int .i64 delay, .int .i64 ttr, .int .i64 number, .string tube, .slice a n m] : Array Value).size = 8 := rfl
  go_enter Tryd.func17, Tryd.ntmps17
  go_wp2_with fail
  refine HR.out.mono ?_
  rintro e w1 ⟨rfl, hb⟩
  clear HR hc8
  obtain ⟨hb2, hz, hr1⟩ := below_after hb
  have hx : w1.cell? ⟨w.heap.size, 7, none⟩ = some (.slice a n m) := (cell_of_row _ _ 7 _ 27 (0, 0) hr1).trans rfl
  have hx0 : w1.cell? ⟨w.heap.size, 0, none⟩ = some (.int .i64 k) := (cell_of_row _ _ 0 _ 27 (0, 0) hr1).trans rfl
  have Hr1 := Lib.hid hr1
  clear hb hr1
  obtain ⟨lets, hlets⟩ : ∃ lets : ByteArray, lets = ⟨(behindAt k).toArray⟩ := ⟨_, rfl⟩
  have hls : lets.size = (behindAt k).length := by rw [hlets]; simp [ByteArray.size]
  have HLS := Lib.hid hls
  have HLG := Lib.hid (show ∀ (pos : Nat) (h : pos < lets.size), ∃ h' : pos < (behindAt k).length, lets[pos] = (behindAt k)[pos] by subst hlets; intro pos h; exact ⟨by rw [hls] at h; exact h, rfl⟩)
  obtain ⟨i0, hi, hz0, hz1, hz2⟩ := info_parts info9
  have HLE := Lib.hid hlets
  clear hls hlets
  rcases hd with hk1 | ⟨hk1, hgn⟩
  all_goals
    go_wp2_with fail
    refine (formOf_yes _ _ h1 h2).mono ?_
    rintro e w2 ⟨rfl, hb3⟩
    rw [← HLE.out]
    have hr2 : w2.heap[w.heap.size]? = _ := (hb3.block _ (lt_of_heap Hr1.out)).trans Hr1.out
    have hb4 := hb2.trans (hb3.mono (by omega))
    have hz2' : w.heap.size < w2.heap.size := by have := hb3.size; omega
    have Hr2 := Lib.hid hr2
    clear hb3 hb2 hr2 hx hx0 Hr1
    go_wp2_with fail
    obtain ⟨B, hB⟩ : ∃ B, B = w2.heap.size := ⟨_, rfl⟩
    obtain ⟨wr0, hwr⟩ : ∃ wr0, wr0 = ((w2.alloc (.cells #[.string ⟨(verbAt k).toArray⟩, .string lets] 44)).alloc (.cells #[.string ⟨(verbAt k).toArray⟩] 9)).iter lets 0 := ⟨_, rfl⟩
    have hin : InPrint w w.heap.size (B + 1 + 1) (B + 1) #[.int .i64 (k : Int), .int .i64 id, .int .i64 pri, .int .i64 delay, .int .i64 ttr, .int .i64 number, .string tube, .slice a n m] lets 0 (.slice (some ⟨B + 1, 0, none⟩) 1 1) 1 ((ws.take 1).map Value.string) wr0 := by
      have hr2 := Hr2.out
      subst hB hwr
      refine ⟨?_, ?_, ?_, by omega, by omega, ?_, by omega, by omega⟩
      · rw [World.iter, Below.heap_alloc _ _ _ (by simp; omega), Below.heap_alloc _ _ _ (by simp; omega), Below.heap_alloc _ _ _ hz2']; exact hr2
      · have := World.iter_heap ((w2.alloc (.cells #[.string ⟨(verbAt k).toArray⟩, .string lets] 44)).alloc (.cells #[.string ⟨(verbAt k).toArray⟩] 9)) lets 0
        simpa using this
      · exact (((hb4.alloc (by omega) _).alloc (by simp; omega) _).alloc (by simp; omega) _)
      · rw [H0.out]
        refine ⟨rfl, .inr ⟨_, 1, #[.string ⟨(verbAt k).toArray⟩], rfl, Nat.le_refl _, ?_, Nat.le_refl _, by decide, rfl, rfl⟩⟩
        rw [World.iter, Below.heap_alloc _ _ _ (by simp)]
        have := heap_alloc_last (w2.alloc (.cells #[.string ⟨(verbAt k).toArray⟩, .string lets] 44)) (.cells #[.string ⟨(verbAt k).toArray⟩] 9)
        simpa using this
    have HIN := Lib.hid hin
    rw [← hwr, ← hB]
    clear hwr hB hin Hr2 hb4 hz2' hz
    try clear hgn
    go_loopw [6, 8, 9] (fun v _ _ wr => ∃ pos, pos ≤ lets.size ∧ InPrint w w.heap.size (B + 1 + 1) (B + 1) #[.int .i64 (k : Int), .int .i64 id, .int .i64 pri, .int .i64 delay, .int .i64 ttr, .int .i64 number, .string tube, .slice a n m] lets pos v (pos + 1) ((ws.take (pos + 1)).map Value.string) wr) (fun _ _ _ wr => lets.size - wr.iterPos (B + 1 + 1))
    case atStart => exact ⟨0, Nat.zero_le _, HIN.out⟩
    case round =>
      obtain ⟨pos, hle, h⟩ := hrel
      clear HIN
      have HW := Lib.hid (show wr.iterPos (B + 1 + 1) = pos by simp [World.iterPos, h.iter])
      by_cases hp : pos < lets.size
      · obtain ⟨hp', hq⟩ := HLG.out pos hp
        have hlen4 : lets.size ≤ 4 := by rw [HLS.out]; exact behind_len hk26
        have hmem : (behindAt k)[pos] ∈ behindAt k := List.getElem_mem _
        have hcase := behind_letter hk26 hmem
        have hgood := Lib.hid (HG.out.below h.below)
        rcases hcase with hc | hc | hc | hc | hc | hc
        · have hstep := Lib.hid (HT'.out pos _ hp' hc)
          have hnx : ∀ ty, (Instr.next (.pointer (some ⟨B + 1 + 1, 0, none⟩)) true ty).run Tryd.prog wr = .ok (.tuple #[.bool true, .int .i64 pos, .int .i32 105]) (wr.iterAt (B + 1 + 1) lets (pos + 1)) := fun ty => by
            have e : lets[pos] = 105 := hq.trans hc
            have := Lib.run_next_ascii_at (P := Tryd.prog) wr (B + 1 + 1) lets pos ty h.iter hp (by rw [e]; decide)
            rw [e] at this; exact this
          have hm1 := h.moved (pos + 1)
          have hmb : (105 : UInt8) ∈ behindAt k := by rw [← hc]; exact hmem
          have hv := F105.out hmb
          try simp only at hv
          obtain ⟨hv0, hv1⟩ := hv
          have hx : (wr.iterAt (B + 1 + 1) lets (pos + 1)).cell? ⟨w.heap.size, 1, none⟩ = some (.int .i64 id) := (cell_of_row _ _ 1 _ 27 (0, 0) hm1.row1).trans rfl
          have HG1 := Lib.hid (HG.out.below hm1.below)
          clear hc hmem hq hmb h
          go_wp2_with fail
          refine (fieldOf_105 _).mono ?_
          rintro e w' ⟨rfl, rfl⟩
          go_wp2_with (go_at_call 37; refine (at_1 _ _).mono ?_; rintro e w' ⟨rfl, rfl⟩)
          refine (dprint_any _ _ HG1.out (by omega) (by omega)).mono ?_
          rintro e w3 ⟨rfl, hb⟩
          have hm2 := hm1.on hb
          clear hb hm1 hx hnx
          have HM2 := Lib.hid hm2
          clear hm2
          go_wp2_with (at_builtin; refine wpList_append_own _ rfl _ _ 39 rfl (B + 1) 9 i0 (.string ⟨#[]⟩) 1 16 Tryd.underlying39 hi hz0 hz1 hz2 rfl (by decide) _ _ _ rfl (HM2.out.own.alloc _) ⟨w3.heap.size, 0, none⟩ 1 1 [.string ⟨(printD id).toArray⟩] rfl rfl ?c1 ?c2 ?c3 ?c4 ?c5 ?_)
          case c1 => exact one_new _ _ _
          case c2 => exact one_string _
          case c3 => unfold maxLen; omega
          case c4 => omega
          case c5 => have := lt_of_heap HM2.out.iter; simp; omega
          intro v' w4 hown hgrow _
          have hm4 := (HM2.out.on ((Below.refl _ _).alloc (Nat.le_refl _) _)).grown hgrow hown
          have e4 : List.take (pos + 1) (List.map Value.string ws) ++ [Value.string ⟨(printD id).toArray⟩] = (ws.take (pos + 1 + 1)).map Value.string := by
            have := hstep.out
            rw [W105.out] at this
            rw [this, List.map_take]
          rw [← List.map_take, List.map_take, e4] at hm4
          have HM4 := Lib.hid hm4
          have HP := Lib.hid (show w4.iterPos (B + 1 + 1) = pos + 1 by simp [World.iterPos, hm4.iter])
          clear hm4 hgrow hown e4
          go_wp2_with fail
          go_roundw
          case rel => exact ⟨pos + 1, by omega, HM4.out⟩
          case measure => rw [HP.out, HW.out]; omega
        · have hstep := Lib.hid (HT'.out pos _ hp' hc)
          have hnx : ∀ ty, (Instr.next (.pointer (some ⟨B + 1 + 1, 0, none⟩)) true ty).run Tryd.prog wr = .ok (.tuple #[.bool true, .int .i64 pos, .int .i32 112]) (wr.iterAt (B + 1 + 1) lets (pos + 1)) := fun ty => by
            have e : lets[pos] = 112 := hq.trans hc
            have := Lib.run_next_ascii_at (P := Tryd.prog) wr (B + 1 + 1) lets pos ty h.iter hp (by rw [e]; decide)
            rw [e] at this; exact this
          have hm1 := h.moved (pos + 1)
          have hmb : (112 : UInt8) ∈ behindAt k := by rw [← hc]; exact hmem
          have hv := F112.out hmb
          try simp only at hv
          obtain ⟨hv0, hv1⟩ := hv
          have hx : (wr.iterAt (B + 1 + 1) lets (pos + 1)).cell? ⟨w.heap.size, 2, none⟩ = some (.int .i64 pri) := (cell_of_row _ _ 2 _ 27 (0, 0) hm1.row1).trans rfl
          have HG1 := Lib.hid (HG.out.below hm1.below)
          clear hc hmem hq hmb h
          go_wp2_with fail
          refine (fieldOf_112 _).mono ?_
          rintro e w' ⟨rfl, rfl⟩
          go_wp2_with (go_at_call 37; refine (at_2 _ _).mono ?_; rintro e w' ⟨rfl, rfl⟩)
          refine (dprint_any _ _ HG1.out (by omega) (by omega)).mono ?_
          rintro e w3 ⟨rfl, hb⟩
          have hm2 := hm1.on hb
          clear hb hm1 hx hnx
          have HM2 := Lib.hid hm2
          clear hm2
          go_wp2_with (at_builtin; refine wpList_append_own _ rfl _ _ 39 rfl (B + 1) 9 i0 (.string ⟨#[]⟩) 1 16 Tryd.underlying39 hi hz0 hz1 hz2 rfl (by decide) _ _ _ rfl (HM2.out.own.alloc _) ⟨w3.heap.size, 0, none⟩ 1 1 [.string ⟨(printD pri).toArray⟩] rfl rfl ?c1 ?c2 ?c3 ?c4 ?c5 ?_)
          case c1 => exact one_new _ _ _
          case c2 => exact one_string _
          case c3 => unfold maxLen; omega
          case c4 => omega
          case c5 => have := lt_of_heap HM2.out.iter; simp; omega
          intro v' w4 hown hgrow _
          have hm4 := (HM2.out.on ((Below.refl _ _).alloc (Nat.le_refl _) _)).grown hgrow hown
          have e4 : List.take (pos + 1) (List.map Value.string ws) ++ [Value.string ⟨(printD pri).toArray⟩] = (ws.take (pos + 1 + 1)).map Value.string := by
            have := hstep.out
            rw [W112.out] at this
            rw [this, List.map_take]
          rw [← List.map_take, List.map_take, e4] at hm4
          have HM4 := Lib.hid hm4
          have HP := Lib.hid (show w4.iterPos (B + 1 + 1) = pos + 1 by simp [World.iterPos, hm4.iter])
          clear hm4 hgrow hown e4
          go_wp2_with fail
          go_roundw
          case rel => exact ⟨pos + 1, by omega, HM4.out⟩
          case measure => rw [HP.out, HW.out]; omega
        · have hstep := Lib.hid (HT'.out pos _ hp' hc)
          have hnx : ∀ ty, (Instr.next (.pointer (some ⟨B + 1 + 1, 0, none⟩)) true ty).run Tryd.prog wr = .ok (.tuple #[.bool true, .int .i64 pos, .int .i32 100]) (wr.iterAt (B + 1 + 1) lets (pos + 1)) := fun ty => by
            have e : lets[pos] = 100 := hq.trans hc
            have := Lib.run_next_ascii_at (P := Tryd.prog) wr (B + 1 + 1) lets pos ty h.iter hp (by rw [e]; decide)
            rw [e] at this; exact this
          have hm1 := h.moved (pos + 1)
          have hmb : (100 : UInt8) ∈ behindAt k := by rw [← hc]; exact hmem
          have hv := F100.out hmb
          try simp only at hv
          obtain ⟨hv0, hv1⟩ := hv
          have hx : (wr.iterAt (B + 1 + 1) lets (pos + 1)).cell? ⟨w.heap.size, 3, none⟩ = some (.int .i64 delay) := (cell_of_row _ _ 3 _ 27 (0, 0) hm1.row1).trans rfl
          have HG1 := Lib.hid (HG.out.below hm1.below)
          clear hc hmem hq hmb h
          go_wp2_with fail
          refine (fieldOf_100 _).mono ?_
          rintro e w' ⟨rfl, rfl⟩
          go_wp2_with (go_at_call 37; refine (at_3 _ _).mono ?_; rintro e w' ⟨rfl, rfl⟩)
          refine (dprint_any _ _ HG1.out (by omega) (by omega)).mono ?_
          rintro e w3 ⟨rfl, hb⟩
          have hm2 := hm1.on hb
          clear hb hm1 hx hnx
          have HM2 := Lib.hid hm2
          clear hm2
          go_wp2_with (at_builtin; refine wpList_append_own _ rfl _ _ 39 rfl (B + 1) 9 i0 (.string ⟨#[]⟩) 1 16 Tryd.underlying39 hi hz0 hz1 hz2 rfl (by decide) _ _ _ rfl (HM2.out.own.alloc _) ⟨w3.heap.size, 0, none⟩ 1 1 [.string ⟨(printD delay).toArray⟩] rfl rfl ?c1 ?c2 ?c3 ?c4 ?c5 ?_)
          case c1 => exact one_new _ _ _
          case c2 => exact one_string _
          case c3 => unfold maxLen; omega
          case c4 => omega
          case c5 => have := lt_of_heap HM2.out.iter; simp; omega
          intro v' w4 hown hgrow _
          have hm4 := (HM2.out.on ((Below.refl _ _).alloc (Nat.le_refl _) _)).grown hgrow hown
          have e4 : List.take (pos + 1) (List.map Value.string ws) ++ [Value.string ⟨(printD delay).toArray⟩] = (ws.take (pos + 1 + 1)).map Value.string := by
            have := hstep.out
            rw [W100.out] at this
            rw [this, List.map_take]
          rw [← List.map_take, List.map_take, e4] at hm4
          have HM4 := Lib.hid hm4
          have HP := Lib.hid (show w4.iterPos (B + 1 + 1) = pos + 1 by simp [World.iterPos, hm4.iter])
          clear hm4 hgrow hown e4
          go_wp2_with fail
          go_roundw
          case rel => exact ⟨pos + 1, by omega, HM4.out⟩
          case measure => rw [HP.out, HW.out]; omega
        · have hstep := Lib.hid (HT'.out pos _ hp' hc)
          have hnx : ∀ ty, (Instr.next (.pointer (some ⟨B + 1 + 1, 0, none⟩)) true ty).run Tryd.prog wr = .ok (.tuple #[.bool true, .int .i64 pos, .int .i32 116]) (wr.iterAt (B + 1 + 1) lets (pos + 1)) := fun ty => by
            have e : lets[pos] = 116 := hq.trans hc
            have := Lib.run_next_ascii_at (P := Tryd.prog) wr (B + 1 + 1) lets pos ty h.iter hp (by rw [e]; decide)
            rw [e] at this; exact this
          have hm1 := h.moved (pos + 1)
          have hmb : (116 : UInt8) ∈ behindAt k := by rw [← hc]; exact hmem
          have hv := F116.out hmb
          try simp only at hv
          obtain ⟨hv0, hv1⟩ := hv
          have hx : (wr.iterAt (B + 1 + 1) lets (pos + 1)).cell? ⟨w.heap.size, 4, none⟩ = some (.int .i64 ttr) := (cell_of_row _ _ 4 _ 27 (0, 0) hm1.row1).trans rfl
          have HG1 := Lib.hid (HG.out.below hm1.below)
          clear hc hmem hq hmb h
          go_wp2_with fail
          refine (fieldOf_116 _).mono ?_
          rintro e w' ⟨rfl, rfl⟩
          go_wp2_with (go_at_call 37; refine (at_4 _ _).mono ?_; rintro e w' ⟨rfl, rfl⟩)
          refine (dprint_any _ _ HG1.out (by omega) (by omega)).mono ?_
          rintro e w3 ⟨rfl, hb⟩
          have hm2 := hm1.on hb
          clear hb hm1 hx hnx
          have HM2 := Lib.hid hm2
          clear hm2
          go_wp2_with (at_builtin; refine wpList_append_own _ rfl _ _ 39 rfl (B + 1) 9 i0 (.string ⟨#[]⟩) 1 16 Tryd.underlying39 hi hz0 hz1 hz2 rfl (by decide) _ _ _ rfl (HM2.out.own.alloc _) ⟨w3.heap.size, 0, none⟩ 1 1 [.string ⟨(printD ttr).toArray⟩] rfl rfl ?c1 ?c2 ?c3 ?c4 ?c5 ?_)
          case c1 => exact one_new _ _ _
          case c2 => exact one_string _
          case c3 => unfold maxLen; omega
          case c4 => omega
          case c5 => have := lt_of_heap HM2.out.iter; simp; omega
          intro v' w4 hown hgrow _
          have hm4 := (HM2.out.on ((Below.refl _ _).alloc (Nat.le_refl _) _)).grown hgrow hown
          have e4 : List.take (pos + 1) (List.map Value.string ws) ++ [Value.string ⟨(printD ttr).toArray⟩] = (ws.take (pos + 1 + 1)).map Value.string := by
            have := hstep.out
            rw [W116.out] at this
            rw [this, List.map_take]
          rw [← List.map_take, List.map_take, e4] at hm4
          have HM4 := Lib.hid hm4
          have HP := Lib.hid (show w4.iterPos (B + 1 + 1) = pos + 1 by simp [World.iterPos, hm4.iter])
          clear hm4 hgrow hown e4
          go_wp2_with fail
          go_roundw
          case rel => exact ⟨pos + 1, by omega, HM4.out⟩
          case measure => rw [HP.out, HW.out]; omega
        · have hstep := Lib.hid (HT'.out pos _ hp' hc)
          have hnx : ∀ ty, (Instr.next (.pointer (some ⟨B + 1 + 1, 0, none⟩)) true ty).run Tryd.prog wr = .ok (.tuple #[.bool true, .int .i64 pos, .int .i32 110]) (wr.iterAt (B + 1 + 1) lets (pos + 1)) := fun ty => by
            have e : lets[pos] = 110 := hq.trans hc
            have := Lib.run_next_ascii_at (P := Tryd.prog) wr (B + 1 + 1) lets pos ty h.iter hp (by rw [e]; decide)
            rw [e] at this; exact this
          have hm1 := h.moved (pos + 1)
          have hmb : (110 : UInt8) ∈ behindAt k := by rw [← hc]; exact hmem
          have hv := F110.out hmb
          try simp only at hv
          obtain ⟨hv0, hv1⟩ := hv
          have hx : (wr.iterAt (B + 1 + 1) lets (pos + 1)).cell? ⟨w.heap.size, 5, none⟩ = some (.int .i64 number) := (cell_of_row _ _ 5 _ 27 (0, 0) hm1.row1).trans rfl
          have HG1 := Lib.hid (HG.out.below hm1.below)
          clear hc hmem hq hmb h
          go_wp2_with fail
          refine (fieldOf_110 _).mono ?_
          rintro e w' ⟨rfl, rfl⟩
          go_wp2_with (go_at_call 37; refine (at_5 _ _).mono ?_; rintro e w' ⟨rfl, rfl⟩)
          refine (dprint_any _ _ HG1.out (by omega) (by omega)).mono ?_
          rintro e w3 ⟨rfl, hb⟩
          have hm2 := hm1.on hb
          clear hb hm1 hx hnx
          have HM2 := Lib.hid hm2
          clear hm2
          go_wp2_with (at_builtin; refine wpList_append_own _ rfl _ _ 39 rfl (B + 1) 9 i0 (.string ⟨#[]⟩) 1 16 Tryd.underlying39 hi hz0 hz1 hz2 rfl (by decide) _ _ _ rfl (HM2.out.own.alloc _) ⟨w3.heap.size, 0, none⟩ 1 1 [.string ⟨(printD number).toArray⟩] rfl rfl ?c1 ?c2 ?c3 ?c4 ?c5 ?_)
          case c1 => exact one_new _ _ _
          case c2 => exact one_string _
          case c3 => unfold maxLen; omega
          case c4 => omega
          case c5 => have := lt_of_heap HM2.out.iter; simp; omega
          intro v' w4 hown hgrow _
          have hm4 := (HM2.out.on ((Below.refl _ _).alloc (Nat.le_refl _) _)).grown hgrow hown
          have e4 : List.take (pos + 1) (List.map Value.string ws) ++ [Value.string ⟨(printD number).toArray⟩] = (ws.take (pos + 1 + 1)).map Value.string := by
            have := hstep.out
            rw [W110.out] at this
            rw [this, List.map_take]
          rw [← List.map_take, List.map_take, e4] at hm4
          have HM4 := Lib.hid hm4
          have HP := Lib.hid (show w4.iterPos (B + 1 + 1) = pos + 1 by simp [World.iterPos, hm4.iter])
          clear hm4 hgrow hown e4
          go_wp2_with fail
          go_roundw
          case rel => exact ⟨pos + 1, by omega, HM4.out⟩
          case measure => rw [HP.out, HW.out]; omega
        · have hstep := Lib.hid (HT'.out pos _ hp' hc)
          have hnx : ∀ ty, (Instr.next (.pointer (some ⟨B + 1 + 1, 0, none⟩)) true ty).run Tryd.prog wr = .ok (.tuple #[.bool true, .int .i64 pos, .int .i32 117]) (wr.iterAt (B + 1 + 1) lets (pos + 1)) := fun ty => by
            have e : lets[pos] = 117 := hq.trans hc
            have := Lib.run_next_ascii_at (P := Tryd.prog) wr (B + 1 + 1) lets pos ty h.iter hp (by rw [e]; decide)
            rw [e] at this; exact this
          have hm1 := h.moved (pos + 1)
          have hx : (wr.iterAt (B + 1 + 1) lets (pos + 1)).cell? ⟨w.heap.size, 6, none⟩ = some (.string tube) := (cell_of_row _ _ 6 _ 27 (0, 0) hm1.row1).trans rfl
          have HM2 := Lib.hid hm1
          clear hc hmem hq h hm1
          go_wp2_with fail
          refine (fieldOf_117 _).mono ?_
          rintro e w' ⟨rfl, rfl⟩
          go_wp2_with (at_builtin; refine wpList_append_own _ rfl _ _ 39 rfl (B + 1) 9 i0 (.string ⟨#[]⟩) 1 16 Tryd.underlying39 hi hz0 hz1 hz2 rfl (by decide) _ _ _ rfl (HM2.out.own.alloc _) ⟨(wr.iterAt (B + 1 + 1) lets (pos + 1)).heap.size, 0, none⟩ 1 1 [.string tube] rfl rfl ?c1 ?c2 ?c3 ?c4 ?c5 ?_)
          case c1 => exact one_new _ _ _
          case c2 => exact one_string _
          case c3 => unfold maxLen; omega
          case c4 => omega
          case c5 => have := lt_of_heap HM2.out.iter; simp; omega
          intro v' w4 hown hgrow _
          have hm4 := (HM2.out.on ((Below.refl _ _).alloc (Nat.le_refl _) _)).grown hgrow hown
          have e4 : List.take (pos + 1) (List.map Value.string ws) ++ [Value.string tube] = (ws.take (pos + 1 + 1)).map Value.string := by
            have := hstep.out
            rw [W117.out] at this
            rw [this, List.map_take]
          rw [← List.map_take, List.map_take, e4] at hm4
          have HM4 := Lib.hid hm4
          have HP := Lib.hid (show w4.iterPos (B + 1 + 1) = pos + 1 by simp [World.iterPos, hm4.iter])
          clear hm4 hgrow hown e4
          go_wp2_with fail
          go_roundw
          case rel => exact ⟨pos + 1, by omega, HM4.out⟩
          case measure => rw [HP.out, HW.out]; omega
      · have hnx : ∀ ty, (Instr.next (.pointer (some ⟨B + 1 + 1, 0, none⟩)) true ty).run Tryd.prog wr = .ok (.tuple #[.bool false]) wr := fun ty => Lib.run_next_end_at wr (B + 1 + 1) lets pos ty h.iter hp
        have hpe : pos + 1 = ws.length := by rw [HL.out, ← HLS.out]; omega
        have hown := h.own
        rw [hpe, List.take_length] at hown
        obtain ⟨g, cap, rfl, hc1, hc2, hc3, -⟩ := texts_own hown (by omega)
        have hbl := h.below
        have HJ := Lib.hid (HFin.out g 0 cap wr hc3 hc2 hc1 (by have := behind_len hk26; rw [HL.out]; omega) Hall.out (by omega) (by rw [← HLN.out]; exact Hline.out))
        clear hc1 hc2 hc3 hown hpe h
        go_wp2_with fail
        refine HJ.out.mono ?_
        rintro e w5 ⟨rfl, hb5⟩
        rw [← HLN.out]
        go_wp2_with fail
        go_ret2
        exact ⟨rfl, hbl.trans (hb5.mono hbl.size)⟩
end Go.Proofs.YtlhkelgkkfnfoaaDoor
