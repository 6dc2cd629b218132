/- The reference's set: a field out of a word. -/
import Derived.Test.YtlhkelgkkfnfoaaDoorE1
import Derived.Test.YtlhkelgkkfnfoaaDoorA9
namespace Go.Proofs.YtlhkelgkkfnfoaaDoor
open Go.RowKit

/-- a field, as the reference reads it -/
def setR (c : CmdN) (b : Nat) (x : ByteArray) : CmdN × Bool :=
  let r := parseD x.data.toList 4294967295
  let q := parseD x.data.toList 4611686018427387903
  if b = 112 then ({ c with pri := r.1 }, r.2)
  else if b = 100 then ({ c with delay := r.1 }, r.2)
  else if b = 114 then ({ c with ttr := if r.1 = 0 then 1 else r.1 }, r.2)
  else if b = 110 then ({ c with number := r.1 }, r.2)
  else if b = 105 then ({ c with id := q.1 }, q.2)
  else ({ c with tube := x }, validB x.data.toList)

theorem results34 (tmps : Array Value) (b : Nat) (cs : Array Value) (w : World) (q : Bool) (hp : tmps.getD 6 undef = .pointer (some ⟨b, 0, none⟩)) (he : tmps.getD 7 undef = .bool q)
    (hrow : w.heap[b]? = some (.cells cs 27 (0, 0))) (hsz : cs.size = 8) : (results Tryd.f34 tmps).run Tryd.prog w = .ok (.tuple #[.agg cs, .bool q]) w := by
  have hl : (loadVar 27 ⟨b, 0, none⟩).run Tryd.prog w = .ok (.agg cs) w := run_loadVar_row w b 27 27 cs (0, 0) _ hrow Tryd.underlying27 rfl (by rw [hsz]; kernel_rfl)
  have hp' : tmps[6]?.getD undef = .pointer (some ⟨b, 0, none⟩) := by simpa using hp
  have he' : tmps[7]?.getD undef = .bool q := by simpa using he
  simp [results, Tryd.results34, hp', he', asAddr, hl]

theorem two_rows (w : World) (a b : Array Value) : ((w.alloc (.cells a 27)).alloc (.cells b 27)).heap[w.heap.size]? = some (.cells a 27 (0, 0)) ∧ ((w.alloc (.cells a 27)).alloc (.cells b 27)).heap[w.heap.size + 1]? = some (.cells b 27 (0, 0)) := by
  refine ⟨?_, ?_⟩
  · rw [Below.heap_alloc _ _ _ (by simp)]; exact heap_alloc_last _ _
  · have := heap_alloc_last (w.alloc (.cells a 27)) (.cells b 27)
    simpa using this
theorem two_below (w : World) (a b : Obj) : Below w.heap.size w ((w.alloc a).alloc b) := ((Below.refl _ _).alloc (Nat.le_refl _) _).alloc (by simp) _
theorem refParse_w (x : ByteArray) (w : World) (hs : x.size ≤ 9223372036854775806) : Calls Tryd.prog 51 #[.string x, .int .i64 4611686018427387903] w fun e w' => e = .returned (.tuple #[.int .i64 (parseD x.data.toList 4611686018427387903).1, .bool (parseD x.data.toList 4611686018427387903).2]) ∧ w' = w := refParse_any x 4611686018427387903 w hs (by omega) (by omega)
theorem refParse_n (x : ByteArray) (w : World) (hs : x.size ≤ 9223372036854775806) : Calls Tryd.prog 51 #[.string x, .int .i64 4294967295] w fun e w' => e = .returned (.tuple #[.int .i64 (parseD x.data.toList 4294967295).1, .bool (parseD x.data.toList 4294967295).2]) ∧ w' = w := refParse_any x 4294967295 w hs (by omega) (by omega)

set_option maxHeartbeats 1000000 in
theorem refSet_112 (c : CmdN) (v : Value) (hv : v.oneCell' = true) (x : ByteArray) (w : World) (hs : x.size ≤ 9223372036854775806) :
    Calls Tryd.prog 34 #[.agg (c.cells v), .int .u8 112, .string x] w fun e w' => e = .returned (.tuple #[.agg ((setR c 112 x).1.cells v), .bool (setR c 112 x).2]) ∧ Below w.heap.size w w' := by
  obtain ⟨r, hr⟩ : ∃ r, r = parseD x.data.toList 4294967295 := ⟨_, rfl⟩
  have HN := fun w => Lib.hid (refParse_n x w hs)
  have HE := Lib.hid (show setR c 112 x = ({ c with pri := r.1 }, r.2) by rw [setR]; simp [hr])
  rw [HE.out]
  rw [← hr] at HN
  clear HE hr
  obtain ⟨r1, r2⟩ := r
  obtain ⟨kind, id, pri, delay, ttr, number, tube⟩ := c
  simp only [CmdN.cells] at HN ⊢
  have HV8 := Lib.hid (show (#[.int .i64 kind, .int .i64 id, .int .i64 r1, .int .i64 delay, .int .i64 ttr, .int .i64 number, .string tube, v] : Array Value).all (·.oneCell') = true by simp [hv]; exact ⟨rfl, rfl, rfl, rfl, rfl, rfl, rfl⟩)
  have HD := Lib.hid (two_rows w #[.int .i64 kind, .int .i64 id, .int .i64 pri, .int .i64 delay, .int .i64 ttr, .int .i64 number, .string tube, v] zcells)
  have HB := Lib.hid (two_below w (.cells #[.int .i64 kind, .int .i64 id, .int .i64 pri, .int .i64 delay, .int .i64 ttr, .int .i64 number, .string tube, v] 27) (.cells zcells 27))
  go_enter Tryd.func34, Tryd.ntmps34
  go_upto_region 1 with (fail)
  rw [show (#[.int .i64 0, .int .i64 0, .int .i64 0, .int .i64 0, .int .i64 0, .int .i64 0, .string ⟨#[]⟩, .slice none 0 0] : Array Value) = zcells from rfl]
  generalize (w.alloc (.cells #[.int .i64 kind, .int .i64 id, .int .i64 pri, .int .i64 delay, .int .i64 ttr, .int .i64 number, .string tube, v] 27)).alloc (.cells zcells 27) = W1 at HD HB ⊢
  have hx : W1.cell? ⟨w.heap.size, 2, none⟩ = some (.int .i64 pri) := (cell_of_row _ _ 2 _ 27 (0, 0) HD.out.1).trans rfl
  have hf : W1.frozen? ⟨w.heap.size, 2, none⟩ = false := frozen_of_row _ _ 2 _ 27 HD.out.1
  go_wp2_with fail
  refine (HN _).out.mono ?_
  rintro e W1 ⟨rfl, rfl⟩
  go_upto_region 18 with (fail)
  have HS := Lib.hid (show (W1.setCell ⟨w.heap.size, 2, none⟩ (.int .i64 r1)).heap[w.heap.size]? = some (.cells #[.int .i64 kind, .int .i64 id, .int .i64 r1, .int .i64 delay, .int .i64 ttr, .int .i64 number, .string tube, v] 27 (0, 0)) from row_set HD.out.1 _)
  have HS2 := Lib.hid (show (W1.setCell ⟨w.heap.size, 2, none⟩ (.int .i64 r1)).heap[w.heap.size + 1]? = some (.cells zcells 27 (0, 0)) from (Below.heap_setCell _ _ _ _ (by simp)).trans HD.out.2)
  have HS3 := Lib.hid (show Below w.heap.size w (W1.setCell ⟨w.heap.size, 2, none⟩ (.int .i64 r1)) from HB.out.setCell (Nat.le_refl _) _)
  generalize W1.setCell ⟨w.heap.size, 2, none⟩ (.int .i64 r1) = W2 at HS HS2 HS3 ⊢
  go_wp2_with (first | (refine wpList_load_row rfl 27 _ rfl w.heap.size rfl 27 _ (0, 0) _ HS.out Tryd.underlying27 rfl (by kernel_rfl) ?_) | (refine wpList_store_row rfl 27 _ _ rfl (w.heap.size + 1) #[.int .i64 kind, .int .i64 id, .int .i64 r1, .int .i64 delay, .int .i64 ttr, .int .i64 number, .string tube, v] rfl rfl 27 _ HS2.out (by kernel_rfl) rfl HV8.out ?_))
  exact bodyPost_ret (v := .tuple #[.agg #[.int .i64 kind, .int .i64 id, .int .i64 r1, .int .i64 delay, .int .i64 ttr, .int .i64 number, .string tube, v], .bool r2]) (results34 _ (w.heap.size + 1) _ _ r2 rfl rfl (setRow_heap _ _ _ _ _ _ HS2.out) rfl) rfl ⟨rfl, below_setRow' HS3.out _ (by omega) _⟩

set_option maxHeartbeats 1000000 in
theorem refSet_100 (c : CmdN) (v : Value) (hv : v.oneCell' = true) (x : ByteArray) (w : World) (hs : x.size ≤ 9223372036854775806) :
    Calls Tryd.prog 34 #[.agg (c.cells v), .int .u8 100, .string x] w fun e w' => e = .returned (.tuple #[.agg ((setR c 100 x).1.cells v), .bool (setR c 100 x).2]) ∧ Below w.heap.size w w' := by
  obtain ⟨r, hr⟩ : ∃ r, r = parseD x.data.toList 4294967295 := ⟨_, rfl⟩
  have HN := fun w => Lib.hid (refParse_n x w hs)
  have HE := Lib.hid (show setR c 100 x = ({ c with delay := r.1 }, r.2) by rw [setR]; simp [hr])
  rw [HE.out]
  rw [← hr] at HN
  clear HE hr
  obtain ⟨r1, r2⟩ := r
  obtain ⟨kind, id, pri, delay, ttr, number, tube⟩ := c
  simp only [CmdN.cells] at HN ⊢
  have HV8 := Lib.hid (show (#[.int .i64 kind, .int .i64 id, .int .i64 pri, .int .i64 r1, .int .i64 ttr, .int .i64 number, .string tube, v] : Array Value).all (·.oneCell') = true by simp [hv]; exact ⟨rfl, rfl, rfl, rfl, rfl, rfl, rfl⟩)
  have HD := Lib.hid (two_rows w #[.int .i64 kind, .int .i64 id, .int .i64 pri, .int .i64 delay, .int .i64 ttr, .int .i64 number, .string tube, v] zcells)
  have HB := Lib.hid (two_below w (.cells #[.int .i64 kind, .int .i64 id, .int .i64 pri, .int .i64 delay, .int .i64 ttr, .int .i64 number, .string tube, v] 27) (.cells zcells 27))
  go_enter Tryd.func34, Tryd.ntmps34
  go_upto_region 1 with (fail)
  rw [show (#[.int .i64 0, .int .i64 0, .int .i64 0, .int .i64 0, .int .i64 0, .int .i64 0, .string ⟨#[]⟩, .slice none 0 0] : Array Value) = zcells from rfl]
  generalize (w.alloc (.cells #[.int .i64 kind, .int .i64 id, .int .i64 pri, .int .i64 delay, .int .i64 ttr, .int .i64 number, .string tube, v] 27)).alloc (.cells zcells 27) = W1 at HD HB ⊢
  have hx : W1.cell? ⟨w.heap.size, 3, none⟩ = some (.int .i64 delay) := (cell_of_row _ _ 3 _ 27 (0, 0) HD.out.1).trans rfl
  have hf : W1.frozen? ⟨w.heap.size, 3, none⟩ = false := frozen_of_row _ _ 3 _ 27 HD.out.1
  go_wp2_with fail
  refine (HN _).out.mono ?_
  rintro e W1 ⟨rfl, rfl⟩
  go_upto_region 18 with (fail)
  have HS := Lib.hid (show (W1.setCell ⟨w.heap.size, 3, none⟩ (.int .i64 r1)).heap[w.heap.size]? = some (.cells #[.int .i64 kind, .int .i64 id, .int .i64 pri, .int .i64 r1, .int .i64 ttr, .int .i64 number, .string tube, v] 27 (0, 0)) from row_set HD.out.1 _)
  have HS2 := Lib.hid (show (W1.setCell ⟨w.heap.size, 3, none⟩ (.int .i64 r1)).heap[w.heap.size + 1]? = some (.cells zcells 27 (0, 0)) from (Below.heap_setCell _ _ _ _ (by simp)).trans HD.out.2)
  have HS3 := Lib.hid (show Below w.heap.size w (W1.setCell ⟨w.heap.size, 3, none⟩ (.int .i64 r1)) from HB.out.setCell (Nat.le_refl _) _)
  generalize W1.setCell ⟨w.heap.size, 3, none⟩ (.int .i64 r1) = W2 at HS HS2 HS3 ⊢
  go_wp2_with (first | (refine wpList_load_row rfl 27 _ rfl w.heap.size rfl 27 _ (0, 0) _ HS.out Tryd.underlying27 rfl (by kernel_rfl) ?_) | (refine wpList_store_row rfl 27 _ _ rfl (w.heap.size + 1) #[.int .i64 kind, .int .i64 id, .int .i64 pri, .int .i64 r1, .int .i64 ttr, .int .i64 number, .string tube, v] rfl rfl 27 _ HS2.out (by kernel_rfl) rfl HV8.out ?_))
  exact bodyPost_ret (v := .tuple #[.agg #[.int .i64 kind, .int .i64 id, .int .i64 pri, .int .i64 r1, .int .i64 ttr, .int .i64 number, .string tube, v], .bool r2]) (results34 _ (w.heap.size + 1) _ _ r2 rfl rfl (setRow_heap _ _ _ _ _ _ HS2.out) rfl) rfl ⟨rfl, below_setRow' HS3.out _ (by omega) _⟩

set_option maxHeartbeats 1000000 in
theorem refSet_114 (c : CmdN) (v : Value) (hv : v.oneCell' = true) (x : ByteArray) (w : World) (hs : x.size ≤ 9223372036854775806) :
    Calls Tryd.prog 34 #[.agg (c.cells v), .int .u8 114, .string x] w fun e w' => e = .returned (.tuple #[.agg ((setR c 114 x).1.cells v), .bool (setR c 114 x).2]) ∧ Below w.heap.size w w' := by
  obtain ⟨r, hr⟩ : ∃ r, r = parseD x.data.toList 4294967295 := ⟨_, rfl⟩
  have HN := fun w => Lib.hid (refParse_n x w hs)
  have HE := Lib.hid (show setR c 114 x = ({ c with ttr := if r.1 = 0 then 1 else r.1 }, r.2) by rw [setR]; simp [hr])
  rw [HE.out]
  rw [← hr] at HN
  clear HE hr
  obtain ⟨r1, r2⟩ := r
  obtain ⟨kind, id, pri, delay, ttr, number, tube⟩ := c
  simp only [CmdN.cells] at HN ⊢
  have HV8 := Lib.hid (show (#[.int .i64 kind, .int .i64 id, .int .i64 pri, .int .i64 delay, .int .i64 (if r1 = 0 then 1 else r1), .int .i64 number, .string tube, v] : Array Value).all (·.oneCell') = true by simp [hv]; exact ⟨rfl, rfl, rfl, rfl, rfl, rfl, rfl⟩)
  have HD := Lib.hid (two_rows w #[.int .i64 kind, .int .i64 id, .int .i64 pri, .int .i64 delay, .int .i64 ttr, .int .i64 number, .string tube, v] zcells)
  have HB := Lib.hid (two_below w (.cells #[.int .i64 kind, .int .i64 id, .int .i64 pri, .int .i64 delay, .int .i64 ttr, .int .i64 number, .string tube, v] 27) (.cells zcells 27))
  go_enter Tryd.func34, Tryd.ntmps34
  go_upto_region 1 with (fail)
  rw [show (#[.int .i64 0, .int .i64 0, .int .i64 0, .int .i64 0, .int .i64 0, .int .i64 0, .string ⟨#[]⟩, .slice none 0 0] : Array Value) = zcells from rfl]
  generalize (w.alloc (.cells #[.int .i64 kind, .int .i64 id, .int .i64 pri, .int .i64 delay, .int .i64 ttr, .int .i64 number, .string tube, v] 27)).alloc (.cells zcells 27) = W1 at HD HB ⊢
  have hx : W1.cell? ⟨w.heap.size, 4, none⟩ = some (.int .i64 ttr) := (cell_of_row _ _ 4 _ 27 (0, 0) HD.out.1).trans rfl
  have hf : W1.frozen? ⟨w.heap.size, 4, none⟩ = false := frozen_of_row _ _ 4 _ 27 HD.out.1
  go_wp2_with fail
  refine (HN _).out.mono ?_
  rintro e W1 ⟨rfl, rfl⟩
  by_cases h0 : r1 = 0
  · subst h0
    simp only [if_true] at HV8
    have hz : ((0 : Int) == 0) = true := rfl
    go_upto_region 18 with (fail)
    have HS0 := Lib.hid (show (W1.setCell ⟨w.heap.size, 4, none⟩ (.int .i64 0)).heap[w.heap.size]? = some _ from row_set HD.out.1 _)
    have HS := Lib.hid (show ((W1.setCell ⟨w.heap.size, 4, none⟩ (.int .i64 0)).setCell ⟨w.heap.size, 4, none⟩ (.int .i64 1)).heap[w.heap.size]? = some (.cells #[.int .i64 kind, .int .i64 id, .int .i64 pri, .int .i64 delay, .int .i64 1, .int .i64 number, .string tube, v] 27 (0, 0)) from row_set HS0.out _)
    have HS2 := Lib.hid (show ((W1.setCell ⟨w.heap.size, 4, none⟩ (.int .i64 0)).setCell ⟨w.heap.size, 4, none⟩ (.int .i64 1)).heap[w.heap.size + 1]? = some (.cells zcells 27 (0, 0)) from (Below.heap_setCell _ _ _ _ (by simp)).trans ((Below.heap_setCell _ _ _ _ (by simp)).trans HD.out.2))
    have HS3 := Lib.hid (show Below w.heap.size w ((W1.setCell ⟨w.heap.size, 4, none⟩ (.int .i64 0)).setCell ⟨w.heap.size, 4, none⟩ (.int .i64 1)) from (HB.out.setCell (Nat.le_refl _) _).setCell (Nat.le_refl _) _)
    generalize (W1.setCell ⟨w.heap.size, 4, none⟩ (.int .i64 0)).setCell ⟨w.heap.size, 4, none⟩ (.int .i64 1) = W2 at HS HS2 HS3 ⊢
    go_wp2_with (first | (refine wpList_load_row rfl 27 _ rfl w.heap.size rfl 27 _ (0, 0) _ HS.out Tryd.underlying27 rfl (by kernel_rfl) ?_) | (refine wpList_store_row rfl 27 _ _ rfl (w.heap.size + 1) #[.int .i64 kind, .int .i64 id, .int .i64 pri, .int .i64 delay, .int .i64 1, .int .i64 number, .string tube, v] rfl rfl 27 _ HS2.out (by kernel_rfl) rfl HV8.out ?_))
    exact bodyPost_ret (v := .tuple #[.agg #[.int .i64 kind, .int .i64 id, .int .i64 pri, .int .i64 delay, .int .i64 1, .int .i64 number, .string tube, v], .bool r2]) (results34 _ (w.heap.size + 1) _ _ r2 rfl rfl (setRow_heap _ _ _ _ _ _ HS2.out) rfl) rfl ⟨rfl, below_setRow' HS3.out _ (by omega) _⟩
  · simp only [if_neg h0] at HV8 ⊢
    have hz : (r1 == 0) = false := by simpa using h0
    go_upto_region 18 with (fail)
    have HS := Lib.hid (show (W1.setCell ⟨w.heap.size, 4, none⟩ (.int .i64 r1)).heap[w.heap.size]? = some (.cells #[.int .i64 kind, .int .i64 id, .int .i64 pri, .int .i64 delay, .int .i64 r1, .int .i64 number, .string tube, v] 27 (0, 0)) from row_set HD.out.1 _)
    have HS2 := Lib.hid (show (W1.setCell ⟨w.heap.size, 4, none⟩ (.int .i64 r1)).heap[w.heap.size + 1]? = some (.cells zcells 27 (0, 0)) from (Below.heap_setCell _ _ _ _ (by simp)).trans HD.out.2)
    have HS3 := Lib.hid (show Below w.heap.size w (W1.setCell ⟨w.heap.size, 4, none⟩ (.int .i64 r1)) from HB.out.setCell (Nat.le_refl _) _)
    generalize W1.setCell ⟨w.heap.size, 4, none⟩ (.int .i64 r1) = W2 at HS HS2 HS3 ⊢
    go_wp2_with (first | (refine wpList_load_row rfl 27 _ rfl w.heap.size rfl 27 _ (0, 0) _ HS.out Tryd.underlying27 rfl (by kernel_rfl) ?_) | (refine wpList_store_row rfl 27 _ _ rfl (w.heap.size + 1) #[.int .i64 kind, .int .i64 id, .int .i64 pri, .int .i64 delay, .int .i64 r1, .int .i64 number, .string tube, v] rfl rfl 27 _ HS2.out (by kernel_rfl) rfl HV8.out ?_))
    exact bodyPost_ret (v := .tuple #[.agg #[.int .i64 kind, .int .i64 id, .int .i64 pri, .int .i64 delay, .int .i64 r1, .int .i64 number, .string tube, v], .bool r2]) (results34 _ (w.heap.size + 1) _ _ r2 rfl rfl (setRow_heap _ _ _ _ _ _ HS2.out) rfl) rfl ⟨rfl, below_setRow' HS3.out _ (by omega) _⟩

set_option maxHeartbeats 1000000 in
theorem refSet_110 (c : CmdN) (v : Value) (hv : v.oneCell' = true) (x : ByteArray) (w : World) (hs : x.size ≤ 9223372036854775806) :
    Calls Tryd.prog 34 #[.agg (c.cells v), .int .u8 110, .string x] w fun e w' => e = .returned (.tuple #[.agg ((setR c 110 x).1.cells v), .bool (setR c 110 x).2]) ∧ Below w.heap.size w w' := by
  obtain ⟨r, hr⟩ : ∃ r, r = parseD x.data.toList 4294967295 := ⟨_, rfl⟩
  have HN := fun w => Lib.hid (refParse_n x w hs)
  have HE := Lib.hid (show setR c 110 x = ({ c with number := r.1 }, r.2) by rw [setR]; simp [hr])
  rw [HE.out]
  rw [← hr] at HN
  clear HE hr
  obtain ⟨r1, r2⟩ := r
  obtain ⟨kind, id, pri, delay, ttr, number, tube⟩ := c
  simp only [CmdN.cells] at HN ⊢
  have HV8 := Lib.hid (show (#[.int .i64 kind, .int .i64 id, .int .i64 pri, .int .i64 delay, .int .i64 ttr, .int .i64 r1, .string tube, v] : Array Value).all (·.oneCell') = true by simp [hv]; exact ⟨rfl, rfl, rfl, rfl, rfl, rfl, rfl⟩)
  have HD := Lib.hid (two_rows w #[.int .i64 kind, .int .i64 id, .int .i64 pri, .int .i64 delay, .int .i64 ttr, .int .i64 number, .string tube, v] zcells)
  have HB := Lib.hid (two_below w (.cells #[.int .i64 kind, .int .i64 id, .int .i64 pri, .int .i64 delay, .int .i64 ttr, .int .i64 number, .string tube, v] 27) (.cells zcells 27))
  go_enter Tryd.func34, Tryd.ntmps34
  go_upto_region 1 with (fail)
  rw [show (#[.int .i64 0, .int .i64 0, .int .i64 0, .int .i64 0, .int .i64 0, .int .i64 0, .string ⟨#[]⟩, .slice none 0 0] : Array Value) = zcells from rfl]
  generalize (w.alloc (.cells #[.int .i64 kind, .int .i64 id, .int .i64 pri, .int .i64 delay, .int .i64 ttr, .int .i64 number, .string tube, v] 27)).alloc (.cells zcells 27) = W1 at HD HB ⊢
  have hx : W1.cell? ⟨w.heap.size, 5, none⟩ = some (.int .i64 number) := (cell_of_row _ _ 5 _ 27 (0, 0) HD.out.1).trans rfl
  have hf : W1.frozen? ⟨w.heap.size, 5, none⟩ = false := frozen_of_row _ _ 5 _ 27 HD.out.1
  go_wp2_with fail
  refine (HN _).out.mono ?_
  rintro e W1 ⟨rfl, rfl⟩
  go_upto_region 18 with (fail)
  have HS := Lib.hid (show (W1.setCell ⟨w.heap.size, 5, none⟩ (.int .i64 r1)).heap[w.heap.size]? = some (.cells #[.int .i64 kind, .int .i64 id, .int .i64 pri, .int .i64 delay, .int .i64 ttr, .int .i64 r1, .string tube, v] 27 (0, 0)) from row_set HD.out.1 _)
  have HS2 := Lib.hid (show (W1.setCell ⟨w.heap.size, 5, none⟩ (.int .i64 r1)).heap[w.heap.size + 1]? = some (.cells zcells 27 (0, 0)) from (Below.heap_setCell _ _ _ _ (by simp)).trans HD.out.2)
  have HS3 := Lib.hid (show Below w.heap.size w (W1.setCell ⟨w.heap.size, 5, none⟩ (.int .i64 r1)) from HB.out.setCell (Nat.le_refl _) _)
  generalize W1.setCell ⟨w.heap.size, 5, none⟩ (.int .i64 r1) = W2 at HS HS2 HS3 ⊢
  go_wp2_with (first | (refine wpList_load_row rfl 27 _ rfl w.heap.size rfl 27 _ (0, 0) _ HS.out Tryd.underlying27 rfl (by kernel_rfl) ?_) | (refine wpList_store_row rfl 27 _ _ rfl (w.heap.size + 1) #[.int .i64 kind, .int .i64 id, .int .i64 pri, .int .i64 delay, .int .i64 ttr, .int .i64 r1, .string tube, v] rfl rfl 27 _ HS2.out (by kernel_rfl) rfl HV8.out ?_))
  exact bodyPost_ret (v := .tuple #[.agg #[.int .i64 kind, .int .i64 id, .int .i64 pri, .int .i64 delay, .int .i64 ttr, .int .i64 r1, .string tube, v], .bool r2]) (results34 _ (w.heap.size + 1) _ _ r2 rfl rfl (setRow_heap _ _ _ _ _ _ HS2.out) rfl) rfl ⟨rfl, below_setRow' HS3.out _ (by omega) _⟩

set_option maxHeartbeats 1000000 in
theorem refSet_105 (c : CmdN) (v : Value) (hv : v.oneCell' = true) (x : ByteArray) (w : World) (hs : x.size ≤ 9223372036854775806) :
    Calls Tryd.prog 34 #[.agg (c.cells v), .int .u8 105, .string x] w fun e w' => e = .returned (.tuple #[.agg ((setR c 105 x).1.cells v), .bool (setR c 105 x).2]) ∧ Below w.heap.size w w' := by
  obtain ⟨r, hr⟩ : ∃ r, r = parseD x.data.toList 4294967295 := ⟨_, rfl⟩
  have HN := fun w => Lib.hid (refParse_n x w hs)
  obtain ⟨q, hq⟩ : ∃ q, q = parseD x.data.toList 4611686018427387903 := ⟨_, rfl⟩
  have HQ := fun w => Lib.hid (refParse_w x w hs)
  rw [← hq] at HQ
  have HE := Lib.hid (show setR c 105 x = ({ c with id := q.1 }, q.2) by rw [setR]; simp [hq])
  rw [HE.out]
  rw [← hr] at HN
  clear HE hr hq
  obtain ⟨r1, r2⟩ := r
  obtain ⟨q1, q2⟩ := q
  obtain ⟨kind, id, pri, delay, ttr, number, tube⟩ := c
  simp only [CmdN.cells] at HN ⊢
  have HV8 := Lib.hid (show (#[.int .i64 kind, .int .i64 q1, .int .i64 pri, .int .i64 delay, .int .i64 ttr, .int .i64 number, .string tube, v] : Array Value).all (·.oneCell') = true by simp [hv]; exact ⟨rfl, rfl, rfl, rfl, rfl, rfl, rfl⟩)
  have HD := Lib.hid (two_rows w #[.int .i64 kind, .int .i64 id, .int .i64 pri, .int .i64 delay, .int .i64 ttr, .int .i64 number, .string tube, v] zcells)
  have HB := Lib.hid (two_below w (.cells #[.int .i64 kind, .int .i64 id, .int .i64 pri, .int .i64 delay, .int .i64 ttr, .int .i64 number, .string tube, v] 27) (.cells zcells 27))
  go_enter Tryd.func34, Tryd.ntmps34
  go_upto_region 1 with (fail)
  rw [show (#[.int .i64 0, .int .i64 0, .int .i64 0, .int .i64 0, .int .i64 0, .int .i64 0, .string ⟨#[]⟩, .slice none 0 0] : Array Value) = zcells from rfl]
  generalize (w.alloc (.cells #[.int .i64 kind, .int .i64 id, .int .i64 pri, .int .i64 delay, .int .i64 ttr, .int .i64 number, .string tube, v] 27)).alloc (.cells zcells 27) = W1 at HD HB ⊢
  have hx : W1.cell? ⟨w.heap.size, 1, none⟩ = some (.int .i64 id) := (cell_of_row _ _ 1 _ 27 (0, 0) HD.out.1).trans rfl
  have hf : W1.frozen? ⟨w.heap.size, 1, none⟩ = false := frozen_of_row _ _ 1 _ 27 HD.out.1
  go_wp2_with fail
  refine (HN _).out.mono ?_
  rintro e W1 ⟨rfl, rfl⟩
  go_wp2_with fail
  refine (HQ _).out.mono ?_
  rintro e W1 ⟨rfl, rfl⟩
  go_upto_region 18 with (fail)
  have HS := Lib.hid (show (W1.setCell ⟨w.heap.size, 1, none⟩ (.int .i64 q1)).heap[w.heap.size]? = some (.cells #[.int .i64 kind, .int .i64 q1, .int .i64 pri, .int .i64 delay, .int .i64 ttr, .int .i64 number, .string tube, v] 27 (0, 0)) from row_set HD.out.1 _)
  have HS2 := Lib.hid (show (W1.setCell ⟨w.heap.size, 1, none⟩ (.int .i64 q1)).heap[w.heap.size + 1]? = some (.cells zcells 27 (0, 0)) from (Below.heap_setCell _ _ _ _ (by simp)).trans HD.out.2)
  have HS3 := Lib.hid (show Below w.heap.size w (W1.setCell ⟨w.heap.size, 1, none⟩ (.int .i64 q1)) from HB.out.setCell (Nat.le_refl _) _)
  generalize W1.setCell ⟨w.heap.size, 1, none⟩ (.int .i64 q1) = W2 at HS HS2 HS3 ⊢
  go_wp2_with (first | (refine wpList_load_row rfl 27 _ rfl w.heap.size rfl 27 _ (0, 0) _ HS.out Tryd.underlying27 rfl (by kernel_rfl) ?_) | (refine wpList_store_row rfl 27 _ _ rfl (w.heap.size + 1) #[.int .i64 kind, .int .i64 q1, .int .i64 pri, .int .i64 delay, .int .i64 ttr, .int .i64 number, .string tube, v] rfl rfl 27 _ HS2.out (by kernel_rfl) rfl HV8.out ?_))
  exact bodyPost_ret (v := .tuple #[.agg #[.int .i64 kind, .int .i64 q1, .int .i64 pri, .int .i64 delay, .int .i64 ttr, .int .i64 number, .string tube, v], .bool q2]) (results34 _ (w.heap.size + 1) _ _ q2 rfl rfl (setRow_heap _ _ _ _ _ _ HS2.out) rfl) rfl ⟨rfl, below_setRow' HS3.out _ (by omega) _⟩

set_option maxHeartbeats 1000000 in
theorem refSet_116 (c : CmdN) (v : Value) (hv : v.oneCell' = true) (x : ByteArray) (w : World) (hs : x.size ≤ 9223372036854775806) :
    Calls Tryd.prog 34 #[.agg (c.cells v), .int .u8 116, .string x] w fun e w' => e = .returned (.tuple #[.agg ((setR c 116 x).1.cells v), .bool (setR c 116 x).2]) ∧ Below w.heap.size w w' := by
  obtain ⟨r, hr⟩ : ∃ r, r = parseD x.data.toList 4294967295 := ⟨_, rfl⟩
  have HN := fun w => Lib.hid (refParse_n x w hs)
  have HV := fun w => Lib.hid (refValid_any x w (by omega))
  have HE := Lib.hid (show setR c 116 x = ({ c with tube := x }, validB x.data.toList) by rw [setR]; simp)
  rw [HE.out]
  rw [← hr] at HN
  clear HE hr
  obtain ⟨r1, r2⟩ := r
  generalize validB x.data.toList = q2 at HV ⊢
  obtain ⟨kind, id, pri, delay, ttr, number, tube⟩ := c
  simp only [CmdN.cells] at HN ⊢
  have HV8 := Lib.hid (show (#[.int .i64 kind, .int .i64 id, .int .i64 pri, .int .i64 delay, .int .i64 ttr, .int .i64 number, .string x, v] : Array Value).all (·.oneCell') = true by simp [hv]; exact ⟨rfl, rfl, rfl, rfl, rfl, rfl, rfl⟩)
  have HD := Lib.hid (two_rows w #[.int .i64 kind, .int .i64 id, .int .i64 pri, .int .i64 delay, .int .i64 ttr, .int .i64 number, .string tube, v] zcells)
  have HB := Lib.hid (two_below w (.cells #[.int .i64 kind, .int .i64 id, .int .i64 pri, .int .i64 delay, .int .i64 ttr, .int .i64 number, .string tube, v] 27) (.cells zcells 27))
  go_enter Tryd.func34, Tryd.ntmps34
  go_upto_region 1 with (fail)
  rw [show (#[.int .i64 0, .int .i64 0, .int .i64 0, .int .i64 0, .int .i64 0, .int .i64 0, .string ⟨#[]⟩, .slice none 0 0] : Array Value) = zcells from rfl]
  generalize (w.alloc (.cells #[.int .i64 kind, .int .i64 id, .int .i64 pri, .int .i64 delay, .int .i64 ttr, .int .i64 number, .string tube, v] 27)).alloc (.cells zcells 27) = W1 at HD HB ⊢
  have hx : W1.cell? ⟨w.heap.size, 6, none⟩ = some (.string tube) := (cell_of_row _ _ 6 _ 27 (0, 0) HD.out.1).trans rfl
  have hf : W1.frozen? ⟨w.heap.size, 6, none⟩ = false := frozen_of_row _ _ 6 _ 27 HD.out.1
  go_wp2_with fail
  refine (HN _).out.mono ?_
  rintro e W1 ⟨rfl, rfl⟩
  go_wp2_with fail
  refine (HV _).out.mono ?_
  rintro e W1 ⟨rfl, rfl⟩
  go_upto_region 18 with (fail)
  have HS := Lib.hid (show (W1.setCell ⟨w.heap.size, 6, none⟩ (.string x)).heap[w.heap.size]? = some (.cells #[.int .i64 kind, .int .i64 id, .int .i64 pri, .int .i64 delay, .int .i64 ttr, .int .i64 number, .string x, v] 27 (0, 0)) from row_set HD.out.1 _)
  have HS2 := Lib.hid (show (W1.setCell ⟨w.heap.size, 6, none⟩ (.string x)).heap[w.heap.size + 1]? = some (.cells zcells 27 (0, 0)) from (Below.heap_setCell _ _ _ _ (by simp)).trans HD.out.2)
  have HS3 := Lib.hid (show Below w.heap.size w (W1.setCell ⟨w.heap.size, 6, none⟩ (.string x)) from HB.out.setCell (Nat.le_refl _) _)
  generalize W1.setCell ⟨w.heap.size, 6, none⟩ (.string x) = W2 at HS HS2 HS3 ⊢
  go_wp2_with (first | (refine wpList_load_row rfl 27 _ rfl w.heap.size rfl 27 _ (0, 0) _ HS.out Tryd.underlying27 rfl (by kernel_rfl) ?_) | (refine wpList_store_row rfl 27 _ _ rfl (w.heap.size + 1) #[.int .i64 kind, .int .i64 id, .int .i64 pri, .int .i64 delay, .int .i64 ttr, .int .i64 number, .string x, v] rfl rfl 27 _ HS2.out (by kernel_rfl) rfl HV8.out ?_))
  exact bodyPost_ret (v := .tuple #[.agg #[.int .i64 kind, .int .i64 id, .int .i64 pri, .int .i64 delay, .int .i64 ttr, .int .i64 number, .string x, v], .bool q2]) (results34 _ (w.heap.size + 1) _ _ q2 rfl rfl (setRow_heap _ _ _ _ _ _ HS2.out) rfl) rfl ⟨rfl, below_setRow' HS3.out _ (by omega) _⟩
end Go.Proofs.YtlhkelgkkfnfoaaDoor
