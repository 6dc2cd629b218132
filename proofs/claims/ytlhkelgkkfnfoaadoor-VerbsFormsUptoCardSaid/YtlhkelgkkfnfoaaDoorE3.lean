/- The reference's Parse. -/
import Derived.Test.YtlhkelgkkfnfoaaDoorE2
import Derived.Test.YtlhkelgkkfnfoaaDoorAb
import Derived.Test.YtlhkelgkkfnfoaaDoorR0
namespace Go.Proofs.YtlhkelgkkfnfoaaDoor
open Go.RowKit

theorem ref_in : ((List.range 26).all fun k => (refAt k).all fun b => [112, 100, 114, 110, 105, 116].contains b) = true := by kernel_rfl
theorem ref_letter {k : Nat} (h : k < 26) {b : UInt8} (hb : b ∈ refAt k) : b = 112 ∨ b = 100 ∨ b = 114 ∨ b = 110 ∨ b = 105 ∨ b = 116 := by
  have h1 := List.all_eq_true.1 ref_in k (List.mem_range.2 h)
  have h2 := List.all_eq_true.1 h1 b hb
  simpa using h2
theorem refSet_any (c : CmdN) (v : Value) (hv : v.oneCell' = true) (b : UInt8) (hb : b = 112 ∨ b = 100 ∨ b = 114 ∨ b = 110 ∨ b = 105 ∨ b = 116) (x : ByteArray) (w : World) (hs : x.size ≤ 9223372036854775806) :
    Calls Tryd.prog 34 #[.agg (c.cells v), .int .u8 b.toNat, .string x] w fun e w' => e = .returned (.tuple #[.agg ((setR c b.toNat x).1.cells v), .bool (setR c b.toNat x).2]) ∧ Below w.heap.size w w' := by
  rcases hb with rfl | rfl | rfl | rfl | rfl | rfl
  · exact refSet_112 c v hv x w hs
  · exact refSet_100 c v hv x w hs
  · exact refSet_114 c v hv x w hs
  · exact refSet_110 c v hv x w hs
  · exact refSet_105 c v hv x w hs
  · exact refSet_116 c v hv x w hs

/-- the fields, as the reference reads them -/
def readR : List UInt8 → List ByteArray → CmdN → Option CmdN
  | [], _, c => some c
  | _ :: _, [], _ => none
  | b :: bs, x :: xs, c => if (setR c b.toNat x).2 then readR bs xs (setR c b.toNat x).1 else none
theorem readR_step {bs : List UInt8} {ws : List ByteArray} {pos : Nat} {c : CmdN} {x : ByteArray} (h : pos < bs.length) (hw : pos + 1 < ws.length) (hx : ws[pos + 1] = x) :
    readR (bs.drop pos) (ws.drop (pos + 1)) c = if (setR c bs[pos].toNat x).2 then readR (bs.drop (pos + 1)) (ws.drop (pos + 1 + 1)) (setR c bs[pos].toNat x).1 else none := by
  rw [List.drop_eq_getElem_cons h, List.drop_eq_getElem_cons hw, readR, hx]
/-- what the reference's Parse answers -/
def refRes (s : ByteArray) : CmdN × Int :=
  if kindB (headP s.data.toList) = 0 then (zeroC, 70)
  else if !(allWords (wordsOf s)) || (wordsOf s).length != 1 + (refAt (kindB (headP s.data.toList))).length then (zeroC, 71)
  else match readR (refAt (kindB (headP s.data.toList))) ((wordsOf s).drop 1) (kindC (kindB (headP s.data.toList))) with
    | none => (zeroC, 71)
    | some c => (c, 0)

/-- the rows of Parse's own -/
structure InRP (w0 : World) (b2 b4 : Nat) (c : CmdN) (wr : World) : Prop where
  row2 : wr.heap[b2]? = some (.cells zcells 27 (0, 0))
  row4 : wr.heap[b4]? = some (.cells (c.cells (.slice none 0 0)) 27 (0, 0))
  below : Below w0.heap.size w0 wr
  ne : b2 ≠ b4
  new2 : w0.heap.size ≤ b2
  new4 : w0.heap.size ≤ b4
section
variable {w0 : World} {b2 b4 : Nat} {c : CmdN} {wr : World}
theorem InRP.on (h : InRP w0 b2 b4 c wr) {w' : World} (hb : Below wr.heap.size wr w') : InRP w0 b2 b4 c w' :=
  ⟨(hb.block _ (lt_of_heap h.row2)).trans h.row2, (hb.block _ (lt_of_heap h.row4)).trans h.row4, h.below.trans (hb.mono h.below.size), h.ne, h.new2, h.new4⟩
theorem InRP.set (h : InRP w0 b2 b4 c wr) (j : Nat) (v : Value) (c' : CmdN) (hc : (c.cells (.slice none 0 0)).setIfInBounds j v = c'.cells (.slice none 0 0)) : InRP w0 b2 b4 c' (wr.setCell ⟨b4, j, none⟩ v) :=
  ⟨(Below.heap_setCell _ _ _ _ h.ne).trans h.row2, by rw [row_set h.row4 v, hc], h.below.setCell h.new4 _, h.ne, h.new2, h.new4⟩
theorem InRP.store (h : InRP w0 b2 b4 c wr) (c' : CmdN) : InRP w0 b2 b4 c' (wr.setRow b4 (c'.cells (.slice none 0 0))) :=
  ⟨(setRow_other _ _ _ _ h.ne).trans h.row2, setRow_heap _ _ _ _ _ _ h.row4, below_setRow' h.below _ h.new4 _, h.ne, h.new2, h.new4⟩
end
theorem results14 (tmps : Array Value) (b : Nat) (cs : Array Value) (w : World) (e : Int) (hp : tmps.getD 2 undef = .pointer (some ⟨b, 0, none⟩)) (he : tmps.getD 3 undef = .int .i64 e)
    (hrow : w.heap[b]? = some (.cells cs 27 (0, 0))) (hsz : cs.size = 8) : (results Tryd.f14 tmps).run Tryd.prog w = .ok (.tuple #[.agg cs, .int .i64 e]) w := by
  have hl : (loadVar 27 ⟨b, 0, none⟩).run Tryd.prog w = .ok (.agg cs) w := run_loadVar_row w b 27 27 cs (0, 0) _ hrow Tryd.underlying27 rfl (by rw [hsz]; kernel_rfl)
  have hp' : tmps[2]?.getD undef = .pointer (some ⟨b, 0, none⟩) := by simpa using hp
  have he' : tmps[3]?.getD undef = .int .i64 e := by simpa using he
  simp [results, Tryd.results14, hp', he', asAddr, hl]

theorem kindC_set (kk k : Nat) : ((kindC kk).cells (.slice none 0 0)).setIfInBounds 0 (.int .i64 k) = (kindC k).cells (.slice none 0 0) := rfl

set_option maxHeartbeats 2000000 in
set_option maxRecDepth 20000 in
theorem refParseCmd (s : ByteArray) (w : World) (hs : s.size < 4294967281) :
    Calls Tryd.prog 14 #[.string s] w fun e w' => e = .returned (.tuple #[.agg ((refRes s).1.cells (.slice none 0 0)), .int .i64 (refRes s).2]) ∧ Below w.heap.size w w' := by
  obtain ⟨hd, hhd⟩ : ∃ hd, hd = headP s.data.toList := ⟨_, rfl⟩
  obtain ⟨f, hf⟩ : ∃ f : ByteArray, f = ⟨hd.toArray⟩ := ⟨_, rfl⟩
  have HFL := Lib.hid (show f.toList = hd by rw [ByteArray.toList_eq, hf])
  obtain ⟨ws, hws⟩ : ∃ ws, ws = wordsOf s := ⟨_, rfl⟩
  have HR := Lib.hid (show refRes s = (if kindB hd = 0 then (zeroC, 70)
    else if !(allWords ws) || ws.length != 1 + (refAt (kindB hd)).length then (zeroC, 71)
    else match readR (refAt (kindB hd)) (ws.drop 1) (kindC (kindB hd)) with
      | none => (zeroC, 71)
      | some c => (c, 0) : CmdN × Int) by rw [hhd, hws]; rfl)
  have HFI := Lib.hid (fun w => refFirst_any s w (by omega))
  rw [← hhd, ← hf] at HFI
  have HSP := Lib.hid (fun w => refSplit_any s w hs)
  have HSZ := Lib.hid (show ∀ x ∈ ws, x.size ≤ 4294967281 by rw [hws]; exact words_size s hs)
  have hwl : ws.length ≤ s.size + 1 := by rw [hws]; exact wordsOf_le s
  rw [← hws] at HSP
  generalize refRes s = rr at HR ⊢
  clear hhd hf hws
  have HD := Lib.hid (two_rows w zcells zcells)
  have HB := Lib.hid (two_below w (.cells zcells 27) (.cells zcells 27))
  go_enter Tryd.func14, Tryd.ntmps14
  go_upto_region 2 with (fail)
  rw [show (#[.int .i64 0, .int .i64 0, .int .i64 0, .int .i64 0, .int .i64 0, .int .i64 0, .string ⟨#[]⟩, .slice none 0 0] : Array Value) = zcells from rfl]
  generalize (w.alloc (.cells zcells 27)).alloc (.cells zcells 27) = W1 at HD HB ⊢
  go_wp2_with fail
  refine (HFI.out _).mono ?_
  rintro e W1 ⟨rfl, rfl⟩
  have HIN := Lib.hid (show InRP w w.heap.size (w.heap.size + 1) (kindC 0) W1 from ⟨HD.out.1, HD.out.2, HB.out, by omega, by omega, by omega⟩)
  clear HD HB HFI
  go_wp2_with fail
  go_loopw [6] (fun t wr => ∃ k kk : Nat, 1 ≤ k ∧ k ≤ 26 ∧ t = .int .i64 k ∧ kk < 26 ∧ InRP w w.heap.size (w.heap.size + 1) (kindC kk) wr ∧ Hid ((kk ≠ 0 → verbAt kk = hd) ∧ (kk = 0 → noneTo hd k))) (fun t _ => 26 - (intOf t).toNat)
  case atStart => exact ⟨1, 0, by omega, by omega, rfl, by omega, HIN.out, fun h => absurd rfl h, fun _ j h1 h2 => by omega⟩
  case round =>
    obtain ⟨k, kk, hk1, hk2, rfl, hkk, hin, hv⟩ := hrel
    clear HIN
    have HIN := Lib.hid hin
    clear hin
    by_cases hlt : k < 26
    · go_wp2_with fail
      refine (refVerbs_any _).mono ?_
      rintro e w' ⟨rfl, rfl⟩
      have hc : (wr.alloc (.cells verbCells 9)).cell? ⟨wr.heap.size, k, none⟩ = some (.string ⟨(verbAt k).toArray⟩) := (cell_of_row _ _ k _ 9 (0, 0) (heap_alloc_last wr _)).trans (verbCells_at k hlt)
      have HI2 := Lib.hid (HIN.out.on (w' := wr.alloc (.cells verbCells 9)) ((Below.refl _ _).alloc (Nat.le_refl _) _))
      generalize wr.alloc (.cells verbCells 9) = W2 at hc HI2 ⊢
      have hx : W2.cell? ⟨w.heap.size + 1, 0, none⟩ = some (.int .i64 (kindC kk).kind) := (cell_of_row _ _ 0 _ 27 (0, 0) HI2.out.row4).trans rfl
      have hfz : W2.frozen? ⟨w.heap.size + 1, 0, none⟩ = false := frozen_of_row _ _ 0 _ 27 HI2.out.row4
      by_cases he : verbAt k = hd
      · have hq : (verbAt k == f.toList) = true := by rw [HFL.out, he]; simp
        have HE := Lib.hid he
        clear he
        go_wp2_with fail
        go_roundw
        case rel => exact ⟨k + 1, k, by omega, by omega, by go_num, hlt, HI2.out.set 0 _ (kindC k) (kindC_set kk k), fun _ => HE.out, fun h => by omega⟩
        case measure => simp [intOf]; omega
      · have hq : (verbAt k == f.toList) = false := by rw [HFL.out]; simpa using he
        have HE := Lib.hid he
        clear he
        go_wp2_with fail
        go_roundw
        case rel => exact ⟨k + 1, kk, by omega, by omega, by go_num, hkk, HI2.out, hv.out.1, fun h => noneTo_step (hv.out.2 h) HE.out⟩
        case measure => simp [intOf]; omega
    · obtain rfl : k = 26 := by omega
      have HK := Lib.hid (kindB_eq hkk hv.out.1 hv.out.2)
      rw [HK.out] at HR
      clear HK hv HFL
      have hx : wr.cell? ⟨w.heap.size + 1, 0, none⟩ = some (.int .i64 kk) := (cell_of_row _ _ 0 _ 27 (0, 0) HIN.out.row4).trans rfl
      by_cases hk0 : kk = 0
      · subst hk0
        have HR' := Lib.hid (show rr = (zeroC, 70) by rw [HR.out, if_pos rfl])
        clear HR
        go_wp2_with (refine wpList_store_row rfl 27 _ _ rfl w.heap.size zcells rfl rfl 27 _ HIN.out.row2 (by kernel_rfl) rfl (cells_one _ rfl) ?_)
        rw [HR'.out]
        exact bodyPost_ret (v := .tuple #[.agg zcells, .int .i64 70]) (results14 _ w.heap.size zcells _ 70 rfl rfl (setRow_heap _ _ _ _ _ _ HIN.out.row2) rfl) rfl ⟨rfl, below_setRow' HIN.out.below _ (Nat.le_refl _) _⟩
      · have hkz : ((kk : Int) == 0) = false := by simpa using hk0
        replace HR := Lib.hid (HR.out.trans (if_neg hk0))
        clear hk0
        go_wp2_with fail
        refine (HSP.out _).mono ?_
        rintro e W3 ⟨hb3, hsp⟩
        have HI3 := Lib.hid (HIN.out.on hb3)
        have HL4 := Lib.hid (lt_of_heap HIN.out.row4)
        clear hb3 HIN hx HSP
        rcases hsp with ⟨hno, rfl⟩ | ⟨hyes, g, cap, rfl, htx, hgw, hgl⟩
        · have HR' := Lib.hid (show rr = (zeroC, 71) by rw [HR.out, if_pos (by simp [hno])])
          clear HR
          have hx : W3.cell? ⟨w.heap.size + 1, 0, none⟩ = some (.int .i64 kk) := (cell_of_row _ _ 0 _ 27 (0, 0) HI3.out.row4).trans rfl
          go_wp2_with fail
          refine (refForm_any kk _ hkk).mono ?_
          rintro e W4 ⟨rfl, hb4⟩
          have HI4 := Lib.hid (HI3.out.on hb4)
          clear hb4 hx
          go_wp2_with (refine wpList_store_row rfl 27 _ _ rfl w.heap.size zcells rfl rfl 27 _ HI4.out.row2 (by kernel_rfl) rfl (cells_one _ rfl) ?_)
          rw [HR'.out]
          exact bodyPost_ret (v := .tuple #[.agg zcells, .int .i64 71]) (results14 _ w.heap.size zcells _ 71 rfl rfl (setRow_heap _ _ _ _ _ _ HI4.out.row2) rfl) rfl ⟨rfl, below_setRow' HI4.out.below _ (Nat.le_refl _) _⟩
        · have hx : W3.cell? ⟨w.heap.size + 1, 0, none⟩ = some (.int .i64 kk) := (cell_of_row _ _ 0 _ 27 (0, 0) HI3.out.row4).trans rfl
          obtain ⟨lets, hlets⟩ : ∃ lets : ByteArray, lets = ⟨(refAt kk).toArray⟩ := ⟨_, rfl⟩
          have hls : lets.size = (refAt kk).length := by rw [hlets]; simp [ByteArray.size]
          have hl4 : lets.size ≤ 4 := by rw [hls]; exact ref_len hkk
          have HLS := Lib.hid hls
          have HLG := Lib.hid (show ∀ (pos : Nat) (h : pos < lets.size), ∃ h' : pos < (refAt kk).length, lets[pos] = (refAt kk)[pos] by subst hlets; intro pos h; exact ⟨by rw [hls] at h; exact h, rfl⟩)
          have HFM := Lib.hid (fun w => refForm_any kk w hkk)
          rw [← hlets] at HFM
          have HLT := Lib.hid (fun (b : UInt8) (hb : b ∈ refAt kk) => ref_letter hkk hb)
          rw [hyes] at HR
          generalize hgr : refAt kk = rf at HR HLS HLG HLT
          clear hls hlets hgr
          go_wp2_with fail
          refine (HFM.out _).mono ?_
          rintro e W4 ⟨rfl, hb4⟩
          have HI4 := Lib.hid (HI3.out.on hb4)
          have HT4 := Lib.hid (htx.below hb4 hgl)
          have HG4 := Lib.hid (show g < W4.heap.size ∧ g ≠ w.heap.size + 1 from ⟨Nat.lt_of_lt_of_le hgl hb4.size, fun e => by
            have := HL4.out; omega⟩)
          clear hb4 htx hgl hgw hx HI3 HFM
          by_cases hcount : ws.length = 1 + lets.size
          · have hq : ((ws.length : Int) != 1 + (lets.size : Int)) = false := by simp; omega
            replace HR := Lib.hid (HR.out.trans (if_neg (by rw [← HLS.out]; simp; omega)))
            clear hq HL4
            go_wp2_with fail
            go_loopw [10] (fun t wr => ∃ (pos : Nat) (c : CmdN), pos ≤ lets.size ∧ t = .int .i64 pos ∧ InRP w w.heap.size (w.heap.size + 1) c wr ∧ TextsAt wr g 0 ws ∧ g < wr.heap.size ∧ Hid (readR (rf.drop pos) (ws.drop (pos + 1)) c = readR rf (ws.drop 1) (kindC kk))) (fun t _ => lets.size - (intOf t).toNat)
            case atStart => exact ⟨0, kindC kk, Nat.zero_le _, rfl, HI4.out, HT4.out, HG4.out.1, rfl⟩
            case round =>
              obtain ⟨pos, c, hle, rfl, hin, htx, hgl, hra⟩ := hrel
              clear HI4 HT4
              by_cases hp : pos < lets.size
              · obtain ⟨hp', hq⟩ := HLG.out pos hp
                have hwp : pos + 1 < ws.length := by omega
                obtain ⟨x, hx⟩ : ∃ x, x = ws[pos + 1] := ⟨_, rfl⟩
                have hstep := readR_step (c := c) hp' hwp hx.symm
                rw [← hq] at hstep
                have HLB := Lib.hid (HLT.out lets[pos] (by rw [hq]; exact List.getElem_mem _))
                have hsz : x.size ≤ 9223372036854775806 := by
                  have := HSZ.out x (by rw [hx]; exact List.getElem_mem _)
                  omega
                have HST := Lib.hid (hra.out.symm.trans hstep)
                have hcl : wr.cell? ⟨g, pos + 1, none⟩ = some (.string x) := by
                  have := htx (pos + 1) x (by rw [hx]; exact List.getElem?_eq_getElem hwp)
                  rwa [Nat.zero_add] at this
                have HSET := Lib.hid (fun w => refSet_any c (.slice none 0 0) rfl lets[pos] HLB.out x w hsz)
                obtain ⟨b, hb⟩ : ∃ b, b = lets[pos] := ⟨_, rfl⟩
                obtain ⟨sr, hsr⟩ : ∃ sr, sr = setR c b.toNat x := ⟨_, rfl⟩
                rw [← hb, ← hsr] at HSET HST
                have HBB := Lib.hid hb
                obtain ⟨cc, ok⟩ := sr
                simp only at HSET HST
                have hw1 : IntKind.i64.wrap ((pos : Int) + 1) = (pos : Int) + 1 := IntWalk.i64_in _ (by omega)
                have hw1' : IntKind.i64.wrap (1 + (pos : Int)) = (pos : Int) + 1 := by rw [Int.add_comm]; exact hw1
                have hw2 : 0 ≤ (pos : Int) + 1 := by omega
                have hw3 : ((pos : Int) + 1).toNat = pos + 1 := by omega
                have hw4 : (pos : Int) + 1 < (1 + (lets.size : Int)) := by omega
                have hw5 : (pos : Int) + 1 < ((1 + lets.size : Nat) : Int) := by omega
                have hw6 : pos + 1 < 1 + lets.size := by omega
                have HI5 := Lib.hid (hin.on (w' := wr.drew) (Below.refl _ _).drew)
                have hcl' : wr.drew.cell? ⟨g, pos + 1, none⟩ = some (.string x) := hcl
                have HT5 := Lib.hid (show TextsAt wr.drew g 0 ws ∧ g < wr.drew.heap.size from ⟨htx, hgl⟩)
                clear hin hcl htx hgl hsr hra hstep hq hx hb HLB
                go_wp2_with fail
                refine wp_region_any (by kernel_rfl) ?_
                change wpAny _ _ _ _ _ _ _ wr.drew
                generalize wr.drew = W5 at HI5 HT5 hcl' ⊢
                have hi3 : ∀ W, (Instr.index 9 (.string lets) (.int .i64 pos)).run Tryd.prog W = .ok (.int .u8 lets[pos].toNat) W := fun W => by go_simp
                have hi6 : ∀ W, (binOp .add 3 (.int .i64 pos) (.int .i64 1)).run Tryd.prog W = .ok (.int .i64 (pos + 1)) W := fun W => by go_simp
                have hi7 : ∀ W, (Instr.indexAt 39 (.slice (some ⟨g, 0, none⟩) (1 + lets.size) cap) (.int .i64 (pos + 1))).run Tryd.prog W = .ok (.pointer (some ⟨g, pos + 1, none⟩)) W := fun W => by go_simp
                have hi8 : (loadVar 9 ⟨g, pos + 1, none⟩).run Tryd.prog W5 = .ok (.string x) W5 := by go_simp
                refine wpAny_take (i := 1) (v := .string lets) rfl (by kernel_rfl) (by kernel_rfl) (by kernel_rfl) (fun _ _ _ h => h) (.inl ⟨by kernel_rfl, fun W => (by kernel_rfl)⟩) ?_
                refine wpAny_take (i := 2) (v := .int .i64 pos) rfl (by kernel_rfl) (by kernel_rfl) (by kernel_rfl) (fun _ _ _ h => h) (.inl ⟨by kernel_rfl, fun W => (by kernel_rfl)⟩) ?_
                refine wpAny_take (i := 3) (v := .int .u8 lets[pos].toNat) rfl (by kernel_rfl) (by kernel_rfl) (by kernel_rfl) (fun _ _ _ h => h) (.inl ⟨by kernel_rfl, fun W => index_run _ _ _ rfl _ _ (by kernel_rfl) (by kernel_rfl) (hi3 W)⟩) ?_
                refine wpAny_take (i := 4) (v := .slice (some ⟨g, 0, none⟩) (1 + lets.size) cap) rfl (by kernel_rfl) (by kernel_rfl) (by kernel_rfl) (fun _ _ _ h => h) (.inl ⟨by kernel_rfl, fun W => (by kernel_rfl)⟩) ?_
                refine wpAny_take (i := 5) (v := .int .i64 pos) rfl (by kernel_rfl) (by kernel_rfl) (by kernel_rfl) (fun _ _ _ h => h) (.inl ⟨by kernel_rfl, fun W => (by kernel_rfl)⟩) ?_
                refine wpAny_take (i := 6) (v := .int .i64 (pos + 1)) rfl (by kernel_rfl) (by kernel_rfl) (by kernel_rfl) (fun _ _ _ h => h) (.inl ⟨by kernel_rfl, fun W => bin_run _ _ _ _ _ rfl _ _ (by kernel_rfl) (by kernel_rfl) (by kernel_rfl) (hi6 W)⟩) ?_
                refine wpAny_take (i := 7) (v := .pointer (some ⟨g, pos + 1, none⟩)) rfl (by kernel_rfl) (by kernel_rfl) (by kernel_rfl) (fun _ _ _ h => h) (.inl ⟨by kernel_rfl, fun W => addr_run _ _ _ rfl _ _ (by kernel_rfl) (by kernel_rfl) (hi7 W)⟩) ?_
                refine any_two 0 8 (.agg (c.cells (.slice none 0 0))) (.string x) (by kernel_rfl) (by kernel_rfl) (by kernel_rfl) rfl rfl (by kernel_rfl) (by kernel_rfl) (by kernel_rfl) (by kernel_rfl)
                  (load_row_run 27 _ rfl (w.heap.size + 1) (by kernel_rfl) 27 _ (0, 0) _ HI5.out.row4 Tryd.underlying27 rfl (by kernel_rfl)) (load_run 9 _ rfl ⟨g, pos + 1, none⟩ (by kernel_rfl) hi8)
                  (load_row_run 27 _ rfl (w.heap.size + 1) (by kernel_rfl) 27 _ (0, 0) _ HI5.out.row4 Tryd.underlying27 rfl (by kernel_rfl)) (load_run 9 _ rfl ⟨g, pos + 1, none⟩ (by kernel_rfl) hi8) (by kernel_rfl) (by kernel_rfl) ?_
                refine any_one 9 (by kernel_rfl) rfl rfl fun K hK => ?_
                go_simp
                rw [HBB.out] at HSET
                refine (HSET.out _).mono ?_
                rintro e W6 ⟨rfl, hb6⟩
                refine hK _ _ ?_
                clear hK K
                have HI6 := Lib.hid (HI5.out.on hb6)
                have HT6 := Lib.hid (show TextsAt W6 g 0 ws ∧ g < W6.heap.size from ⟨HT5.out.1.below hb6 HT5.out.2, Nat.lt_of_lt_of_le HT5.out.2 hb6.size⟩)
                clear hb6 HI5 HT5 hcl' HSET hi8
                refine wpAny_take (i := 10) (v := .tuple #[.agg (cc.cells (.slice none 0 0)), .bool ok]) rfl (by kernel_rfl) (by kernel_rfl) (by kernel_rfl) (fun _ _ _ h => h) (.inl ⟨by kernel_rfl, fun W => (by kernel_rfl)⟩) ?_
                refine wpAny_take (i := 11) (v := .agg (cc.cells (.slice none 0 0))) rfl (by kernel_rfl) (by kernel_rfl) (by kernel_rfl) (fun _ _ _ h => h) (.inl ⟨by kernel_rfl, fun W => (by kernel_rfl)⟩) ?_
                refine wpAny_take (i := 12) (v := .bool ok) rfl (by kernel_rfl) (by kernel_rfl) (by kernel_rfl) (fun _ _ _ h => h) (.inl ⟨by kernel_rfl, fun W => (by kernel_rfl)⟩) ?_
                refine any_one 13 (by kernel_rfl) rfl (by kernel_rfl) fun K hK => ?_
                refine wp_store_row 27 _ _ rfl (w.heap.size + 1) (cc.cells (.slice none 0 0)) (by kernel_rfl) (by kernel_rfl) 27 _ HI6.out.row4 (by kernel_rfl) rfl (cells_one _ rfl) (hK _ _ ?_)
                clear hK K
                have HI7 := Lib.hid (HI6.out.store cc)
                have HT7 := Lib.hid (show TextsAt (W6.setRow (w.heap.size + 1) (cc.cells (.slice none 0 0))) g 0 ws ∧ g < (W6.setRow (w.heap.size + 1) (cc.cells (.slice none 0 0))).heap.size from
                  ⟨fun j y hy => (World.cell?_of_block (w := W6) (setRow_other _ _ _ _ HG4.out.2)).trans (HT6.out.1 j y hy), by simpa using HT6.out.2⟩)
                clear HI6 HT6
                generalize W6.setRow (w.heap.size + 1) (cc.cells (.slice none 0 0)) = W7 at HI7 HT7 ⊢
                refine wpAny_take (i := 14) (v := .bool ok) rfl (by kernel_rfl) (by kernel_rfl) (by kernel_rfl) (fun _ _ _ h => h) (.inl ⟨by kernel_rfl, fun W => (by kernel_rfl)⟩) ?_
                refine wpAny_done (by kernel_rfl) ?_ _
                cases ok
                · have HEND := Lib.hid (show rr = (zeroC, 71) by rw [HR.out, HST.out]; rfl)
                  clear HST
                  go_wp2_with (refine wpList_store_row rfl 27 _ _ rfl w.heap.size zcells rfl rfl 27 _ HI7.out.row2 (by kernel_rfl) rfl (cells_one _ rfl) ?_)
                  rw [HEND.out]
                  exact bodyPost_ret (v := .tuple #[.agg zcells, .int .i64 71]) (results14 _ w.heap.size zcells _ 71 rfl rfl (setRow_heap _ _ _ _ _ _ HI7.out.row2) rfl) rfl ⟨rfl, below_setRow' HI7.out.below _ (Nat.le_refl _) _⟩
                · have HRA := Lib.hid (show readR (rf.drop (pos + 1)) (ws.drop (pos + 1 + 1)) cc = readR rf (ws.drop 1) (kindC kk) from HST.out.symm)
                  clear HST
                  go_wp2_with fail
                  go_roundw
                  case rel => exact ⟨pos + 1, cc, by omega, by go_num, HI7.out, HT7.out.1, HT7.out.2, HRA.out⟩
                  case measure => simp [intOf]; omega
              · have HEND := Lib.hid (show rr = (c, 0) by
                  have e := hra.out
                  rw [List.drop_eq_nil_of_le (by rw [← HLS.out]; omega), readR] at e
                  rw [HR.out, ← e])
                have HIN := Lib.hid hin
                clear hra hin
                go_wp2_with (first | (refine wpList_load_row rfl 27 _ rfl (w.heap.size + 1) rfl 27 _ (0, 0) _ HIN.out.row4 Tryd.underlying27 rfl (by kernel_rfl) ?_) | (refine wpList_store_row rfl 27 _ _ rfl w.heap.size _ rfl rfl 27 _ HIN.out.row2 (by kernel_rfl) rfl (cells_one _ rfl) ?_))
                rw [HEND.out]
                exact bodyPost_ret (v := .tuple #[.agg _, .int .i64 0]) (results14 _ w.heap.size _ _ 0 rfl rfl (setRow_heap _ _ _ _ _ _ HIN.out.row2) rfl) rfl ⟨rfl, below_setRow' HIN.out.below _ (Nat.le_refl _) _⟩
          · have HR' := Lib.hid (show rr = (zeroC, 71) by rw [HR.out, if_pos (by rw [← HLS.out]; simp; omega)])
            have hq : ((ws.length : Int) != 1 + (lets.size : Int)) = true := by simp; omega
            clear HR
            go_wp2_with (refine wpList_store_row rfl 27 _ _ rfl w.heap.size zcells rfl rfl 27 _ HI4.out.row2 (by kernel_rfl) rfl (cells_one _ rfl) ?_)
            rw [HR'.out]
            exact bodyPost_ret (v := .tuple #[.agg zcells, .int .i64 71]) (results14 _ w.heap.size zcells _ 71 rfl rfl (setRow_heap _ _ _ _ _ _ HI4.out.row2) rfl) rfl ⟨rfl, below_setRow' HI4.out.below _ (Nat.le_refl _) _⟩
end Go.Proofs.YtlhkelgkkfnfoaaDoor
