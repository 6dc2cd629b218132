/- VerbsWrites: of every command the program's line is the reference's; the body is left as it is and not looked at. -/
import Derived.Test.YtlhkelgkkfnfoaaDoorD2
import Derived.Test.YtlhkelgkkfnfoaaDoorF2
namespace Go.Proofs.YtlhkelgkkfnfoaaDoor.writes
open Go.ChangeShapes Go.WideShapes Go.ChangeAt Go.RowKit

/-- the call's own rows -/
structure Rows3 (w0 : World) (b1 g b5 n : Nat) (bs : Nat → Int) (cs1 cs5 : Array Value) (wr : World) : Prop where
  row1 : wr.heap[b1]? = some (.cells cs1 27 (0, 0))
  row5 : wr.heap[b5]? = some (.cells cs5 27 (0, 0))
  own : wr.rowIs g 5 (n + 4) (lentF n bs (n + 4))
  below : Below w0.heap.size w0 wr
theorem Rows3.on {w0 wr w' : World} {b1 g b5 n : Nat} {bs : Nat → Int} {cs1 cs5 : Array Value} (h : Rows3 w0 b1 g b5 n bs cs1 cs5 wr) (hb : Below wr.heap.size wr w') : Rows3 w0 b1 g b5 n bs cs1 cs5 w' :=
  ⟨(hb.block _ (lt_of_heap h.row1)).trans h.row1, (hb.block _ (lt_of_heap h.row5)).trans h.row5, h.own.of_block (hb.block _ h.own.lt), h.below.trans (hb.mono h.below.size)⟩

theorem body_below {w w' : World} {a : Option Addr} {n : Nat} {bs : Nat → Int} (h : BodyAt w a n bs) (hb : Below w.heap.size w w') : BodyAt w' a n bs := h.on hb

theorem Rows3.body {w0 : World} {b1 g b5 n : Nat} {bs : Nat → Int} {cs1 cs5 : Array Value} {wr : World} (h : Rows3 w0 b1 g b5 n bs cs1 cs5 wr) : ∃ f, wr.rowIs g 5 (n + 4) f := ⟨_, h.own⟩
/-- the rows, the bytes written over -/
structure Rows4 (w0 : World) (b1 g b5 n : Nat) (cs1 cs5 : Array Value) (wr : World) : Prop where
  row1 : wr.heap[b1]? = some (.cells cs1 27 (0, 0))
  row5 : wr.heap[b5]? = some (.cells cs5 27 (0, 0))
  own : ∃ f, wr.rowIs g 5 (n + 4) f
  below : Below w0.heap.size w0 wr
theorem Rows4.on {w0 wr w' : World} {b1 g b5 n : Nat} {cs1 cs5 : Array Value} (h : Rows4 w0 b1 g b5 n cs1 cs5 wr) (hb : Below wr.heap.size wr w') : Rows4 w0 b1 g b5 n cs1 cs5 w' :=
  ⟨(hb.block _ (lt_of_heap h.row1)).trans h.row1, (hb.block _ (lt_of_heap h.row5)).trans h.row5, h.own.elim fun f hf => ⟨f, hf.of_block (hb.block _ hf.lt)⟩, h.below.trans (hb.mono h.below.size)⟩
theorem Rows4.set {w0 wr : World} {b1 g b5 n : Nat} {cs1 cs5 : Array Value} (h : Rows4 w0 b1 g b5 n cs1 cs5 wr) (h0 : w0.heap.size ≤ g) (h1 : b1 ≠ g) (h5 : b5 ≠ g) (k : Nat) (v : Value) : Rows4 w0 b1 g b5 n cs1 cs5 (wr.setCell ⟨g, k, none⟩ v) :=
  ⟨(Below.heap_setCell _ _ _ _ h1).trans h.row1, (Below.heap_setCell _ _ _ _ h5).trans h.row5, h.own.elim fun _ hf => ⟨_, hf.set k v⟩, h.below.setCell h0 _⟩

theorem refPrint_any (c : CmdN) (a : Option Addr) (n m : Nat) (w : World) (ht : c.tube.size ≤ 9223372036854775807) :
    Calls Tryd.prog 19 #[.agg (c.cells (.slice a n m))] w fun e w' => e = .returned (.tuple #[.string ⟨(printRes c n).1.toArray⟩, .int .i64 (printRes c n).2]) ∧ Below w.heap.size w w' := by
  by_cases h : rightS c n = true
  · have h' : (rightB c && ((c.kind == 1) || n == 0)) = true := h
    have e : printRes c n = (lineL c.kind.toNat c, 0) := by rw [printRes, if_pos h']
    rw [e]
    rw [Bool.and_eq_true, rightB, Bool.and_eq_true, decide_eq_true_eq] at h'
    obtain ⟨⟨hk, hr⟩, _⟩ := h'
    exact refPrint_yes c.kind.toNat c a n m w (by omega) (by omega) (by omega) ht hr h
  · have h' : rightS c n = false := by simpa using h
    have h'' : (rightB c && ((c.kind == 1) || n == 0)) = false := h'
    have e : printRes c n = ([], 72) := by rw [printRes, h'']; rfl
    rw [e]
    exact refPrint_no c a n m w ht h'

set_option maxHeartbeats 2000000 in
set_option maxRecDepth 20000 in
theorem walk (c : CmdN) (a : Option Addr) (n m : Nat) (bs : Nat → Int) (w : World) (hg : Good w) (hc : CmdIn w c a n m bs) :
    Calls Tryd.prog 5 #[.agg (c.cells (.slice a n m))] w fun e w' => e = .returned (.bool true) ∧ Below w.heap.size w w' := by
  have HC := Lib.hid hc
  have hn := hc.small
  have HG := Lib.hid (hg.below ((Below.refl w.heap.size w).alloc (Nat.le_refl _) (.cells (c.cells (.slice a n m)) 27)))
  have HG0 := Lib.hid hg
  have HK := fun (a : Option Addr) (m : Nat) w hg => Lib.hid (print_any c a n m w hg (by have := hc.tube; omega))
  have HR := fun w => Lib.hid (refPrint_any c a n m w (by have := hc.tube; omega))
  generalize printRes c n = r at HK HR
  obtain ⟨ln, er⟩ := r
  clear hc hg
  obtain ⟨kind, id, pri, delay, ttr, number, tube⟩ := c
  simp only [CmdN.cells] at HG HK HR ⊢
  go_enter Tryd.func5, Tryd.ntmps5
  go_wp2_with fail
  refine (shown_any _ HG.out).mono ?_
  rintro e w1 ⟨rfl, hb⟩
  obtain ⟨hb1, hz1, hr1⟩ := below_after hb
  have hx : w1.cell? ⟨w.heap.size, 7, none⟩ = some (.slice a n m) := (cell_of_row _ _ 7 _ 27 (0, 0) hr1).trans rfl
  have HB1 := Lib.hid hb1
  have HR1 := Lib.hid hr1
  have HY := Lib.hid (HC.out.body.on hb1)
  clear hb hb1 hr1 HG
  go_wp2_with fail
  refine (lent_any a n m bs _ HY.out hn).mono ?_
  rintro e w2 ⟨rfl, hb2, hown⟩
  obtain ⟨g, hgg⟩ : ∃ g, g = w1.heap.size := ⟨_, rfl⟩
  rw [← hgg] at hown ⊢
  have HR2 := Lib.hid ((hb2.block _ hz1).trans HR1.out)
  have HB2 := Lib.hid (HB1.out.trans (hb2.mono (Nat.le_of_lt hz1)))
  have HO2 := Lib.hid hown
  have HW2 := Lib.hid (show w.heap.size < g ∧ g < w2.heap.size from ⟨by omega, hown.lt⟩)
  clear hb2 hown hx HR1 HB1 HY hz1 hgg
  go_upto_region 4 with (first | (refine wpList_load_row rfl 27 _ rfl w.heap.size rfl 27 _ (0, 0) _ HR2.out Tryd.underlying27 rfl (by kernel_rfl) ?_))
  obtain ⟨b5, hb5⟩ : ∃ b5, b5 = w2.heap.size := ⟨_, rfl⟩
  obtain ⟨W3, hW3⟩ : ∃ W3, W3 = w2.alloc (.cells #[.int .i64 kind, .int .i64 id, .int .i64 pri, .int .i64 delay, .int .i64 ttr, .int .i64 number, .string tube, .slice a n m] 27) := ⟨_, rfl⟩
  have hr5 : W3.heap[b5]? = some (.cells #[.int .i64 kind, .int .i64 id, .int .i64 pri, .int .i64 delay, .int .i64 ttr, .int .i64 number, .string tube, .slice a n m] 27 (0, 0)) := by rw [hW3, hb5]; exact heap_alloc_last _ _
  have hr1 : W3.heap[w.heap.size]? = some (.cells #[.int .i64 kind, .int .i64 id, .int .i64 pri, .int .i64 delay, .int .i64 ttr, .int .i64 number, .string tube, .slice a n m] 27 (0, 0)) := by
    rw [hW3, Below.heap_alloc _ _ _ (by have := HW2.out; omega)]; exact HR2.out
  have ho3 : W3.rowIs g 5 (n + 4) (lentF n bs (n + 4)) := by rw [hW3]; exact HO2.out.alloc _
  have hb3 : Below w.heap.size w W3 := by rw [hW3]; exact HB2.out.alloc (by have := HW2.out; omega) _
  have HNE := Lib.hid (show w.heap.size < g ∧ g < b5 from by rw [hb5]; exact HW2.out)
  have hx1 : W3.cell? ⟨w.heap.size, 7, none⟩ = some (.slice a n m) := (cell_of_row _ _ 7 _ 27 (0, 0) hr1).trans rfl
  have hx5 : W3.cell? ⟨b5, 7, none⟩ = some (.slice a n m) := (cell_of_row _ _ 7 _ 27 (0, 0) hr5).trans rfl
  have hf5 : W3.frozen? ⟨b5, 7, none⟩ = false := frozen_of_row _ _ 7 _ 27 hr5
  rw [← hb5, ← hW3]
  clear hW3 hb5 HR2 HB2 HO2 HW2
  have H4 := Lib.hid (show Rows3 w w.heap.size g b5 n bs #[.int .i64 kind, .int .i64 id, .int .i64 pri, .int .i64 delay, .int .i64 ttr, .int .i64 number, .string tube, .slice a n m] #[.int .i64 kind, .int .i64 id, .int .i64 pri, .int .i64 delay, .int .i64 ttr, .int .i64 number, .string tube, .slice (some ⟨g, 0, none⟩) n (n + 4)] (W3.setCell ⟨b5, 7, none⟩ (.slice (some ⟨g, 0, none⟩) n (n + 4))) from
    ⟨by rw [Below.heap_setCell _ _ _ _ (by have := HNE.out; simp; omega)]; exact hr1, by rw [setCell_eq_setRow _ _ _ _ _ _ _ hr5]; exact setRow_heap _ _ _ _ _ _ hr5, ho3.setOther (by have := HNE.out; simp; omega) _, hb3.setCell (by have := HNE.out; simp; omega) _⟩)
  clear hr5 hr1 ho3 hb3
  go_upto_region 5 with (fail)
  generalize W3.setCell ⟨b5, 7, none⟩ (.slice (some ⟨g, 0, none⟩) n (n + 4)) = W4 at H4 ⊢
  clear hx1 hx5 hf5
  go_wp2_with (first | (refine wpList_load_row rfl 27 _ rfl b5 rfl 27 _ (0, 0) _ H4.out.row5 Tryd.underlying27 rfl (by kernel_rfl) ?_))
  refine (HK _ _ _ (HG0.out.below H4.out.below)).out.mono ?_
  rintro e w5 ⟨rfl, hb⟩
  have H6 := Lib.hid (H4.out.on hb)
  have hx1 : w5.cell? ⟨w.heap.size, 7, none⟩ = some (.slice a n m) := (cell_of_row _ _ 7 _ 27 (0, 0) H6.out.row1).trans rfl
  clear hb H4
  go_wp2_with fail
  refine (still_any g a n m bs _ (HC.out.body.on H6.out.below) H6.out.own hn).mono ?_
  rintro e w7 ⟨rfl, hb⟩
  have H7 := Lib.hid (H6.out.on hb)
  clear hb H6 hx1
  go_wp2_with fail
  go_loopw [9] (fun t wr => ∃ k : Nat, k ≤ n + 4 ∧ t = .int .i64 k ∧ Rows4 w w.heap.size g b5 n #[.int .i64 kind, .int .i64 id, .int .i64 pri, .int .i64 delay, .int .i64 ttr, .int .i64 number, .string tube, .slice a n m] #[.int .i64 kind, .int .i64 id, .int .i64 pri, .int .i64 delay, .int .i64 ttr, .int .i64 number, .string tube, .slice (some ⟨g, 0, none⟩) n (n + 4)] wr) (fun t _ => n + 4 - (intOf t).toNat)
  case atStart => exact ⟨0, by omega, rfl, ⟨H7.out.row1, H7.out.row5, H7.out.body, H7.out.below⟩⟩
  case round =>
    obtain ⟨k, hk1, rfl, h⟩ := hrel
    clear H7
    by_cases hlt : k < n + 4
    · obtain ⟨f, hf⟩ := h.own
      have hx : _ = _ := hf.cell hlt
      have hz : _ = _ := hf.frozen k
      have H8 := Lib.hid (h.set (by have := HNE.out; omega) (by have := HNE.out; omega) (by have := HNE.out; omega) k (.int .u8 7))
      clear hf h
      go_wp2_with fail
      go_roundw
      case rel => exact ⟨k + 1, by omega, by go_num, H8.out⟩
      case measure => simp [intOf]; omega
    · have H8 := Lib.hid h
      clear h
      go_wp2_with (first | (refine wpList_load_row rfl 27 _ rfl b5 rfl 27 _ (0, 0) _ H8.out.row5 Tryd.underlying27 rfl (by kernel_rfl) ?_))
      refine (HK _ _ _ (HG0.out.below H8.out.below)).out.mono ?_
      rintro e w9 ⟨rfl, hb⟩
      have H9 := Lib.hid (H8.out.on hb)
      clear hb H8 HK
      go_wp2_with (first | (refine wpList_load_row rfl 27 _ rfl w.heap.size rfl 27 _ (0, 0) _ H9.out.row1 Tryd.underlying27 rfl (by kernel_rfl) ?_))
      refine (HR _).out.mono ?_
      rintro e w10 ⟨rfl, hb⟩
      have H10 := Lib.hid (H9.out.on hb)
      clear hb H9 HR
      go_wp2_with fail
      go_ret
      exact ⟨by first | rfl | simp, H10.out.below⟩

set_option maxRecDepth 100000 in
theorem contract (H : Type) (enc : TypeId × Value → H) (W : World) (base : Nat) (args : Array Value) (ds gs : List (DataW H)) (before : List MemPlace)
    (hval : ∀ (j : Nat) t v, Tryd.f5.params[j]? = some t → args[j]? = some v → Value.okWide Tryd.prog W .any base t v)
    (hW : DataW.Whole enc Tryd.prog Tryd.f5.params.toList Rows.verbsWritesSpec.vars false W args.toList ds gs before) (hG : Good W) (hk : Rows.uptoSmall H (ds ++ gs) = true) :
    Calls Tryd.prog 5 args W fun e W' => ∃ v, e = .returned v ∧ Rows.verbsWritesSpec.post enc Tryd.prog Tryd.f5 false true false false W args v W' := by
  have hW' := hW
  obtain ⟨p, q, hA0, hV, rfl, hfz, hnd⟩ := hW
  have hA : DataW.TrodAll enc Tryd.prog W 0 (fun _ => true) true Tryd.f5.params.toList args.toList ds p := hA0
  rw [Tryd.params5] at hA hval
  obtain ⟨v0, vs0, d0, ds0, p0, q0, hargs, rfl, rfl, h0, r0⟩ := trodAll_cons hA
  obtain ⟨rfl, rfl, rfl⟩ := trodAll_nil r0
  obtain rfl : args = #[v0] := by cases args; simp_all
  obtain ⟨rfl, rfl⟩ := trodVars_none hV
  have hlt : ∀ x ∈ p0, x.block < W.heap.size := fun x hx => by simpa using hA0.lt x (by simpa using hx)
  obtain ⟨c, a, n, m, bs, rfl, hc⟩ := open_cmd (hval 0 27 v0 rfl rfl) h0 hlt hk
  clear hA0
  simp only [List.append_nil] at hW'
  refine (walk c a n m bs W hG hc).mono fun e W' ⟨he, hb⟩ => ?_
  subst he
  exact ⟨_, rfl, _, _, _, [], _, [], hW', trodAll_mk1 (shut_bool Tryd.underlying4 _), trodAll_mk1 (Below.trod laidOut readable27 below27 h0 hb hlt), rfl, hb.frame _, fun h => by cases h⟩

theorem reads (os : Os) {H : Type} (enc : TypeId × Value → H) : ∃ places, DataW.whole enc Tryd.prog ((laidWorld os).forCall (fun _ _ => 0) ⟨#[], #[.agg #[.int .i64 0, .int .i64 0, .int .i64 0, .int .i64 0, .int .i64 0, .int .i64 0, .string ByteArray.empty, .slice none 0 0]], []⟩).memory Tryd.f5.params.toList Rows.verbsWritesSpec.vars false (#[.agg #[.int .i64 0, .int .i64 0, .int .i64 0, .int .i64 0, .int .i64 0, .int .i64 0, .string ByteArray.empty, .slice none 0 0]] : Array Value).toList 8 = some ([.agg [.lit (.int .i64 0), .lit (.int .i64 0), .lit (.int .i64 0), .lit (.int .i64 0), .lit (.int .i64 0), .lit (.int .i64 0), .lit (.string []), .nil]], [], places) :=
  ⟨[], by kernel_rfl⟩

set_option maxRecDepth 100000 in
theorem lifted (os : Os) (started : os.Started) (H : Type) (enc : TypeId × Value → H) (F : Stop.Interp) :
    ReturnsInHanded {} Tryd.checked os 5 .any ((Rows.OpenSpec.upto Rows.verbsWritesSpec).preRow enc Tryd.prog Tryd.f5 Rows.verbsWritesUptoRow.domain false Rows.verbsWritesUptoRow.laid) (((Rows.OpenSpec.upto Rows.verbsWritesSpec).at F).post enc Tryd.prog Tryd.f5 false true false false) := by
  obtain ⟨places, hx⟩ := reads os enc
  refine returnsInHanded_of_row (C := Tryd.checked) (s := Rows.OpenSpec.upto Rows.verbsWritesSpec) own started (by kernel_rfl) Tryd.func5
    (witness_row_at (enc := enc) (C := Tryd.checked) false (laidWorld os) #[.agg #[.int .i64 0, .int .i64 0, .int .i64 0, .int .i64 0, .int .i64 0, .int .i64 0, .string ByteArray.empty, .slice none 0 0]] (World.laidAll_os _ _ _) (by kernel_rfl) (by kernel_rfl) (by kernel_rfl)
      (OpenSpec.preRow_of_cond 8 hx (by kernel_rfl) (fun k hk => by cases hk; kernel_rfl) (by kernel_rfl) (by show laidMetH Tryd.prog laidAll _; rw [laid_plain]; exact laid_met os #[.agg #[.int .i64 0, .int .i64 0, .int .i64 0, .int .i64 0, .int .i64 0, .int .i64 0, .string ByteArray.empty, .slice none 0 0]]))) ?_
  intro W base args ds gs before hval hW _ hcond _ hL hS _
  exact contract H enc W base args ds gs before hval hW (good_of_laid hL hS) (hcond _ rfl)

theorem said : Rows.VerbsWritesUptoSaid :=
  OpenClaim.holds_of_cond 5 Tryd.f5 rfl rfl rfl rfl rfl rfl rfl ⟨rfl, rfl, rfl, rfl, rfl⟩ rfl rfl rfl rfl rfl (by kernel_rfl) Tryd.func5 (by kernel_rfl)
    (of_decide_eq_true (by kernel_rfl)) (by unfold Func.isWrapper; first | (rw [if_pos (by decide +kernel)]; kernel_rfl) | (rw [if_neg (by decide +kernel)]; exact ⟨rfl, rfl⟩))
    (fun os started H enc _ F => by rw [OpenClaim.pre_eq_preRow]; exact lifted os started H enc F)

theorem plain (f : FuncId) (fn : Func) (hf : Tryd.pinned.checked.prog.funcNamed "stint/stintlaw07.VerbsWrites" = some f) (hfn : Tryd.pinned.checked.prog.funcs[f]? = some fn) :
    false = Tryd.pinned.checked.prog.looks [] ∧ ∀ (j : Nat) t, fn.params[j]? = some t → Tryd.pinned.checked.prog.wantsStandIn t = false := by
  obtain rfl : f = 5 := Option.some.inj ((show Tryd.prog.funcNamed "stint/stintlaw07.VerbsWrites" = some 5 by kernel_rfl).symm.trans hf) |>.symm
  obtain rfl : fn = Tryd.f5 := (Option.some.inj (Tryd.func5.symm.trans hfn)).symm
  refine ⟨by kernel_rfl, fun j t ht => ?_⟩
  rw [Tryd.params5] at ht
  have hm : t ∈ [27] := by simpa using Array.mem_of_getElem? ht
  have hall : ([27].all fun u => !Tryd.prog.wantsStandIn u) = true := by kernel_rfl
  exact (show Tryd.prog.wantsStandIn t = false by simpa using List.all_eq_true.1 hall t hm)

/-- THE CARD -/
theorem card : Rows.VerbsWritesUptoCardSaid :=
  Claim7.holds_tied_plain_at .later [] _ _ _ _ said (fun _ h => by cases h) (by kernel_rfl) (fun _ h => by cases h) verbsWritesUpto_row_tie rfl ⟨rfl, rfl⟩ (by kernel_rfl) rfl plain (by kernel_rfl)
end Go.Proofs.YtlhkelgkkfnfoaaDoor.writes
