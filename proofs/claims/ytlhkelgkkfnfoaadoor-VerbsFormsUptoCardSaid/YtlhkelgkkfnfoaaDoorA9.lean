/- verbs.Parse: a line as a command. -/
import Derived.Test.YtlhkelgkkfnfoaaDoorA8
import Derived.Deep.RegionWith
namespace Go.Proofs.YtlhkelgkkfnfoaaDoor
open Go.RowKit

/-- the kind of a verb; 0: it is none -/
def kindB (v : List UInt8) : Nat := ((List.range 26).find? fun j => decide (0 < j) && (verbAt j == v)).getD 0
theorem kind_self : ((List.range 26).all fun k => k == 0 || kindB (verbAt k) == k) = true := by kernel_rfl
theorem kindB_eq {v : List UInt8} {k : Nat} (h : k < 26) (h1 : k ≠ 0 → verbAt k = v) (h0 : k = 0 → noneTo v 26) : kindB v = k := by
  by_cases e : k = 0
  · subst e
    unfold kindB
    rw [List.find?_eq_none.2]
    · rfl
    · intro j hj
      have := h0 rfl j
      simp at hj ⊢
      intro hp
      exact this (by omega) hj
  · have h2 := List.all_eq_true.1 kind_self k (List.mem_range.2 h)
    simp [e] at h2
    rw [← h1 e]; exact h2

/-- the field that a letter stands for, by bytes -/
def fieldB (b : UInt8) : Int := fieldOf b.toNat
/-- the fields read one behind the other -/
def readAll : List UInt8 → List ByteArray → CmdN → Option CmdN
  | [], _, c => some c
  | _ :: _, [], _ => none
  | b :: bs, x :: xs, c => if (readF c (fieldB b) x).2 then readAll bs xs (readF c (fieldB b) x).1 else none
def zeroC : CmdN := ⟨0, 0, 0, 0, 0, 0, ⟨#[]⟩⟩
def kindC (k : Nat) : CmdN := ⟨k, 0, 0, 0, 0, 0, ⟨#[]⟩⟩
/-- a put's time to run is one tick at the least -/
def ttrOne (c : CmdN) : CmdN := if c.kind = 1 ∧ c.ttr = 0 then { c with ttr := 1 } else c
/-- what Parse answers: the command and the error's number -/
def parseRes (s : ByteArray) : CmdN × Int :=
  let k := kindB (Lib.cut s.data.toList [32]).1
  if k = 0 then (zeroC, 70)
  else if !(allWords (wordsOf s)) || (wordsOf s).length != 1 + (behindAt k).length then (zeroC, 71)
  else match readAll (behindAt k) ((wordsOf s).drop 1) (kindC k) with
    | none => (zeroC, 71)
    | some c => (ttrOne c, 0)

/-- the fields' part of the answer -/
def parsed (k : Nat) (ws : List ByteArray) : CmdN × Int :=
  match readAll (behindAt k) (ws.drop 1) (kindC k) with
  | none => (zeroC, 71)
  | some c => (ttrOne c, 0)
theorem heap_drewN (w : World) (n : Nat) : (w.drewN n).heap = w.heap := rfl
theorem below_drewN (w : World) (n : Nat) : Below w.heap.size w (w.drewN n) := ⟨rfl, rfl, rfl, Nat.le_refl _, fun _ _ => rfl⟩
theorem row_after {w w2 : World} {o : Obj} {n : Nat} (hb : Below ((w.alloc o).drewN n).heap.size ((w.alloc o).drewN n) w2) : Below w.heap.size w w2 ∧ w.heap.size < w2.heap.size ∧ w2.heap[w.heap.size]? = some o :=
  below_after (o := o) (w := w) (w1 := w2) ⟨hb.os, hb.tape, hb.output, hb.size, hb.block⟩

theorem results13 (tmps : Array Value) (b : Nat) (cs : Array Value) (w : World) (e : Int) (hp : tmps.getD 2 undef = .pointer (some ⟨b, 0, none⟩)) (he : tmps.getD 3 undef = .int .i64 e)
    (hrow : w.heap[b]? = some (.cells cs 27 (0, 0))) (hsz : cs.size = 8) : (results Tryd.f13 tmps).run Tryd.prog w = .ok (.tuple #[.agg cs, .int .i64 e]) w := by
  have hl : (loadVar 27 ⟨b, 0, none⟩).run Tryd.prog w = .ok (.agg cs) w := run_loadVar_row w b 27 27 cs (0, 0) _ hrow Tryd.underlying27 rfl (by rw [hsz]; kernel_rfl)
  have hp' : tmps[2]?.getD undef = .pointer (some ⟨b, 0, none⟩) := by simpa using hp
  have he' : tmps[3]?.getD undef = .int .i64 e := by simpa using he
  simp [results, Tryd.results13, hp', he', asAddr, hl]

theorem ret_cmd {c : CmdN} {r : CmdN × Int} {e : Int} (h : r = (c, e)) : Ending.returned (.tuple #[.agg (c.cells (.slice none 0 0)), .int .i64 e]) = .returned (.tuple #[.agg (r.1.cells (.slice none 0 0)), .int .i64 r.2]) := by rw [h]

theorem below_setRow' {w w2 : World} (h : Below w.heap.size w w2) (b : Nat) (hb : w.heap.size ≤ b) (cs : Array Value) : Below w.heap.size w (w2.setRow b cs) :=
  h.trans ⟨rfl, rfl, rfl, by simp, fun k hk => setRow_other _ _ _ _ (by omega)⟩
theorem cells_one (c : CmdN) {v : Value} (hv : v.oneCell' = true) : (c.cells v).all (·.oneCell') = true := by simp [CmdN.cells, hv]; exact ⟨rfl, rfl, rfl, rfl, rfl, rfl, rfl⟩
def zcells : Array Value := zeroC.cells (.slice none 0 0)

set_option maxHeartbeats 1000000 in
theorem parse_unknown (s : ByteArray) (w : World) (hg : Good w) (hs : s.size < 4294967281) (hk : kindB (Lib.cut s.data.toList [32]).1 = 0) :
    Calls Tryd.prog 13 #[.string s] w fun e w' => e = .returned (.tuple #[.agg zcells, .int .i64 70]) ∧ Below w.heap.size w w' := by
  have HS := Lib.hid (fun (o : Obj) => Tryd.strings_Cut_shaped s ⟨#[32]⟩ (w.alloc o) (hg.below ((Below.refl _ _).alloc (Nat.le_refl _) o)).shaped hs)
  have HK := Lib.hid hk
  clear hk hg
  go_enter Tryd.func13, Tryd.ntmps13
  go_wp2_with fail
  refine (HS.out _).mono ?_
  rintro e w1 ⟨rfl, nd, rfl⟩
  go_wp2_with fail
  refine (kindOf_any _ _).mono ?_
  rintro e w2 ⟨k, rfl, hk26, hk1, hk0, hb⟩
  obtain rfl : k = 0 := by rw [← kindB_eq hk26 hk1 hk0]; exact HK.out
  obtain ⟨hb2, hz, hrow⟩ := row_after hb
  have HROW := Lib.hid hrow
  clear hk26 hk1 hk0 hb hrow HS HK
  go_wp2_with (refine wpList_store_row rfl 27 _ _ rfl w.heap.size zcells rfl rfl 27 _ HROW.out (by kernel_rfl) rfl (cells_one _ rfl) ?_)
  refine bodyPost_ret (v := .tuple #[.agg zcells, .int .i64 70]) (results13 _ w.heap.size zcells _ 70 rfl rfl (setRow_heap _ _ _ _ _ _ HROW.out) rfl) rfl ⟨rfl, below_setRow' hb2 _ (Nat.le_refl _) _⟩

set_option maxHeartbeats 1000000 in
theorem parse_words (s : ByteArray) (w : World) (hg : Good w) (hs : s.size < 4294967281) (hk : kindB (Lib.cut s.data.toList [32]).1 ≠ 0) (hw : allWords (wordsOf s) = false) :
    Calls Tryd.prog 13 #[.string s] w fun e w' => e = .returned (.tuple #[.agg zcells, .int .i64 71]) ∧ Below w.heap.size w w' := by
  have HS := Lib.hid (fun (o : Obj) => Tryd.strings_Cut_shaped s ⟨#[32]⟩ (w.alloc o) (hg.below ((Below.refl _ _).alloc (Nat.le_refl _) o)).shaped hs)
  have HK := Lib.hid hk
  have HG := Lib.hid hg
  have HN := Lib.hid hw
  clear hk hg hw
  go_enter Tryd.func13, Tryd.ntmps13
  go_wp2_with fail
  refine (HS.out _).mono ?_
  rintro e w1 ⟨rfl, nd, rfl⟩
  go_wp2_with fail
  refine (kindOf_any _ _).mono ?_
  rintro e w2 ⟨k, rfl, hk26, hk1, hk0, hb⟩
  have hkk : k ≠ 0 := by rw [← kindB_eq hk26 hk1 hk0]; exact HK.out
  have hkz : ((k : Int) == 0) = false := by simpa using hkk
  obtain ⟨hb2, hz, hrow⟩ := row_after hb
  have HROW := Lib.hid (show w2.heap[w.heap.size]? = some (.cells zcells 27 (0, 0)) from hrow)
  clear hk1 hk0 hb hrow HS HK
  go_wp2_with fail
  refine (dsplit_no s _ (HG.out.below hb2) hs HN.out).mono ?_
  rintro e w3 ⟨rfl, hb3⟩
  have hb4 := hb2.trans (hb3.mono (Nat.le_of_lt hz))
  have HROW3 := Lib.hid ((hb3.block _ (lt_of_heap HROW.out)).trans HROW.out)
  have hz3 : w.heap.size < w3.heap.size := by have := hb3.size; omega
  clear hb3 HROW hz
  go_wp2_with fail
  refine (formOf_yes k _ (by omega) (by omega)).mono ?_
  rintro e w4 ⟨rfl, hb5⟩
  have hb6 := hb4.trans (hb5.mono (Nat.le_of_lt hz3))
  have HROW4 := Lib.hid ((hb5.block _ (lt_of_heap HROW3.out)).trans HROW3.out)
  have hz4 : w.heap.size < w4.heap.size := by have := hb5.size; omega
  clear hb5 HROW3 hz3
  obtain ⟨w5, hw5⟩ : ∃ w5, w5 = w4.alloc (.cells #[.string ⟨(verbAt k).toArray⟩, .string ⟨(behindAt k).toArray⟩] 44) := ⟨_, rfl⟩
  have HROW5 := Lib.hid (show w5.heap[w.heap.size]? = some (.cells zcells 27 (0, 0)) from by rw [hw5, Below.heap_alloc _ _ _ hz4]; exact HROW4.out)
  have hb7 : Below w.heap.size w w5 := by rw [hw5]; exact hb6.alloc (Nat.le_of_lt hz4) _
  have HW5 := Lib.hid hw5
  clear hw5
  go_wp2_with (rw [← HW5.out]; refine wpList_store_row rfl 27 _ _ rfl w.heap.size zcells rfl rfl 27 _ HROW5.out (by kernel_rfl) rfl (cells_one _ rfl) ?_)
  refine bodyPost_ret (v := .tuple #[.agg zcells, .int .i64 71]) (results13 _ w.heap.size zcells _ 71 rfl rfl (setRow_heap _ _ _ _ _ _ HROW5.out) rfl) rfl ⟨rfl, below_setRow' hb7 _ (Nat.le_refl _) _⟩
end Go.Proofs.YtlhkelgkkfnfoaaDoor
