/- VerbsReads: every line is read as the reference reads it; read again, the same. -/
import Derived.Test.YtlhkelgkkfnfoaaDoorE5
import Derived.Test.YtlhkelgkkfnfoaaDoorD2
import Derived.ChangeMaps5
namespace Go.Proofs.YtlhkelgkkfnfoaaDoor.reads
open Go.ChangeShapes Go.WideShapes Go.ChangeAt Go.RowKit

theorem refParse_same (s : ByteArray) (w : World) (hs : s.size < 4294967281) :
    Calls Tryd.prog 14 #[.string s] w fun e w' => e = .returned (.tuple #[.agg ((parseRes s).1.cells (.slice none 0 0)), .int .i64 (parseRes s).2]) ∧ Below w.heap.size w w' := by
  rw [← refRes_is]; exact refParseCmd s w hs
theorem tube_size (s : ByteArray) (hs : s.size < 4294967281) : (parseRes s).1.tube.size ≤ 9223372036854775807 := Nat.le_trans (parse_tube s hs) (by omega)

/-- a row of the call's own -/
def RowAt (b : Nat) (c : CmdN) (w : World) : Prop := w.heap[b]? = some (.cells (c.cells (.slice none 0 0)) 27 (0, 0))
theorem RowAt.on {b : Nat} {c : CmdN} {w w' : World} (h : RowAt b c w) (hb : Below w.heap.size w w') : RowAt b c w' := (hb.block _ (lt_of_heap h)).trans h
/-- a new row, written over -/
def laid (w : World) (c : CmdN) : World := (w.alloc (.cells zcells 27)).setRow w.heap.size (c.cells (.slice none 0 0))
theorem laid_new (w : World) : (w.alloc (.cells zcells 27)).heap[w.heap.size]? = some (.cells zcells 27 (0, 0)) := heap_alloc_last _ _
theorem RowAt.alloc {b : Nat} {c : CmdN} {w : World} (h : RowAt b c w) (d : CmdN) : RowAt b c (laid w d) := by
  have hl := lt_of_heap h
  exact (setRow_other _ _ _ _ (by omega)).trans ((Below.heap_alloc _ _ _ hl).trans h)
theorem RowAt.new (c : CmdN) (w : World) : RowAt w.heap.size c (laid w c) := setRow_heap _ _ _ _ _ _ (laid_new w)
theorem below_laid {w0 w : World} (h : Below w0.heap.size w0 w) (c : CmdN) : Below w0.heap.size w0 (laid w c) := below_setRow' (h.alloc h.size _) _ h.size _

set_option maxHeartbeats 2000000 in
set_option maxRecDepth 20000 in
theorem walk (s t : ByteArray) (w : World) (hg : Good w) (hs : s.size < 4294967281) (ht : t.size < 4294967281) :
    Calls Tryd.prog 4 #[.string s, .string t] w fun e w' => e = .returned (.bool true) ∧ Below w.heap.size w w' := by
  have HPS := Lib.hid (fun w hg => parse_any s w hg hs)
  have HPT := Lib.hid (fun w hg => parse_any t w hg ht)
  have HRS := Lib.hid (fun w => refParse_same s w hs)
  have HRT := Lib.hid (fun w => refParse_same t w ht)
  have HSS := Lib.hid (fun w => same_refl (parseRes s).1 w (tube_size s hs))
  have HST := Lib.hid (fun w => same_refl (parseRes t).1 w (tube_size t ht))
  generalize parseRes s = a at HPS HRS HSS
  generalize parseRes t = b at HPT HRT HST
  obtain ⟨c, x⟩ := a
  obtain ⟨d, y⟩ := b
  simp only at HPS HRS HSS HPT HRT HST
  have HG := Lib.hid hg
  clear hg hs ht
  go_enter Tryd.func4, Tryd.ntmps4
  go_wp2_with fail
  refine (shown_any _ HG.out).mono ?_
  rintro e w1 ⟨rfl, hb1⟩
  have HB1 := Lib.hid hb1
  clear hb1
  go_wp2_with fail
  refine (HPS.out _ (HG.out.below HB1.out)).mono ?_
  rintro e w2 ⟨rfl, hb⟩
  have HB2' := Lib.hid (HB1.out.trans (hb.mono HB1.out.size))
  clear hb
  go_upto_region 3 with (refine wpList_store_row rfl 27 _ _ rfl w2.heap.size _ rfl rfl 27 zcells (laid_new w2) (by kernel_rfl) rfl (cells_one _ rfl) ?_)
  have HR2 := Lib.hid (RowAt.new c w2)
  have HB2 := Lib.hid (below_laid HB2'.out c)
  rw [show (w2.alloc (.cells #[.int .i64 0, .int .i64 0, .int .i64 0, .int .i64 0, .int .i64 0, .int .i64 0, .string ⟨#[]⟩, .slice none 0 0] 27)).setRow w2.heap.size (c.cells (.slice none 0 0)) = laid w2 c from rfl]
  obtain ⟨b2, hb2⟩ : ∃ b, b = w2.heap.size := ⟨_, rfl⟩
  rw [← hb2] at HR2 ⊢
  generalize laid w2 c = W2 at HR2 HB2 ⊢
  clear hb2 HB2'
  go_wp2_with fail
  refine (HPT.out _ (HG.out.below HB2.out)).mono ?_
  rintro e w3 ⟨rfl, hb⟩
  have HB3' := Lib.hid (HB2.out.trans (hb.mono HB2.out.size))
  have HR2 := Lib.hid (HR2.out.on hb)
  clear hb
  go_upto_region 4 with (refine wpList_store_row rfl 27 _ _ rfl w3.heap.size _ rfl rfl 27 zcells (laid_new w3) (by kernel_rfl) rfl (cells_one _ rfl) ?_)
  have HR3 := Lib.hid (RowAt.new d w3)
  have HR2 := Lib.hid (HR2.out.alloc d)
  have HB3 := Lib.hid (below_laid HB3'.out d)
  rw [show (w3.alloc (.cells #[.int .i64 0, .int .i64 0, .int .i64 0, .int .i64 0, .int .i64 0, .int .i64 0, .string ⟨#[]⟩, .slice none 0 0] 27)).setRow w3.heap.size (d.cells (.slice none 0 0)) = laid w3 d from rfl]
  obtain ⟨b3, hb3⟩ : ∃ b, b = w3.heap.size := ⟨_, rfl⟩
  rw [← hb3] at HR3 ⊢
  generalize laid w3 d = W3 at HR3 HB3 HR2 ⊢
  clear hb3 HB3'
  go_wp2_with fail
  refine (HPS.out _ (HG.out.below HB3.out)).mono ?_
  rintro e w4 ⟨rfl, hb⟩
  have HB4' := Lib.hid (HB3.out.trans (hb.mono HB3.out.size))
  have HR2 := Lib.hid (HR2.out.on hb)
  have HR3 := Lib.hid (HR3.out.on hb)
  clear hb
  go_upto_region 5 with (refine wpList_store_row rfl 27 _ _ rfl w4.heap.size _ rfl rfl 27 zcells (laid_new w4) (by kernel_rfl) rfl (cells_one _ rfl) ?_)
  have HR4 := Lib.hid (RowAt.new c w4)
  have HR2 := Lib.hid (HR2.out.alloc c)
  have HR3 := Lib.hid (HR3.out.alloc c)
  have HB4 := Lib.hid (below_laid HB4'.out c)
  rw [show (w4.alloc (.cells #[.int .i64 0, .int .i64 0, .int .i64 0, .int .i64 0, .int .i64 0, .int .i64 0, .string ⟨#[]⟩, .slice none 0 0] 27)).setRow w4.heap.size (c.cells (.slice none 0 0)) = laid w4 c from rfl]
  obtain ⟨b4, hb4⟩ : ∃ b, b = w4.heap.size := ⟨_, rfl⟩
  rw [← hb4] at HR4 ⊢
  generalize laid w4 c = W4 at HR4 HB4 HR2 HR3 ⊢
  clear hb4 HB4'
  go_wp2_with fail
  refine (HRS.out _).mono ?_
  rintro e w5 ⟨rfl, hb⟩
  have HB5' := Lib.hid (HB4.out.trans (hb.mono HB4.out.size))
  have HR2 := Lib.hid (HR2.out.on hb)
  have HR3 := Lib.hid (HR3.out.on hb)
  have HR4 := Lib.hid (HR4.out.on hb)
  clear hb
  go_upto_region 6 with (refine wpList_store_row rfl 27 _ _ rfl w5.heap.size _ rfl rfl 27 zcells (laid_new w5) (by kernel_rfl) rfl (cells_one _ rfl) ?_)
  have HR5 := Lib.hid (RowAt.new c w5)
  have HR2 := Lib.hid (HR2.out.alloc c)
  have HR3 := Lib.hid (HR3.out.alloc c)
  have HR4 := Lib.hid (HR4.out.alloc c)
  have HB5 := Lib.hid (below_laid HB5'.out c)
  rw [show (w5.alloc (.cells #[.int .i64 0, .int .i64 0, .int .i64 0, .int .i64 0, .int .i64 0, .int .i64 0, .string ⟨#[]⟩, .slice none 0 0] 27)).setRow w5.heap.size (c.cells (.slice none 0 0)) = laid w5 c from rfl]
  obtain ⟨b5, hb5⟩ : ∃ b, b = w5.heap.size := ⟨_, rfl⟩
  rw [← hb5] at HR5 ⊢
  generalize laid w5 c = W5 at HR5 HB5 HR2 HR3 HR4 ⊢
  clear hb5 HB5'
  go_wp2_with fail
  refine (HRT.out _).mono ?_
  rintro e w6 ⟨rfl, hb⟩
  have HB6' := Lib.hid (HB5.out.trans (hb.mono HB5.out.size))
  have HR2 := Lib.hid (HR2.out.on hb)
  have HR3 := Lib.hid (HR3.out.on hb)
  have HR4 := Lib.hid (HR4.out.on hb)
  have HR5 := Lib.hid (HR5.out.on hb)
  clear hb
  go_upto_region 7 with (refine wpList_store_row rfl 27 _ _ rfl w6.heap.size _ rfl rfl 27 zcells (laid_new w6) (by kernel_rfl) rfl (cells_one _ rfl) ?_)
  have HR6 := Lib.hid (RowAt.new d w6)
  have HR2 := Lib.hid (HR2.out.alloc d)
  have HR3 := Lib.hid (HR3.out.alloc d)
  have HR4 := Lib.hid (HR4.out.alloc d)
  have HR5 := Lib.hid (HR5.out.alloc d)
  have HB6 := Lib.hid (below_laid HB6'.out d)
  rw [show (w6.alloc (.cells #[.int .i64 0, .int .i64 0, .int .i64 0, .int .i64 0, .int .i64 0, .int .i64 0, .string ⟨#[]⟩, .slice none 0 0] 27)).setRow w6.heap.size (d.cells (.slice none 0 0)) = laid w6 d from rfl]
  obtain ⟨b6, hb6⟩ : ∃ b, b = w6.heap.size := ⟨_, rfl⟩
  rw [← hb6] at HR6 ⊢
  generalize laid w6 d = W6 at HR6 HB6 HR2 HR3 HR4 HR5 ⊢
  clear hb6 HB6'
  go_wp2_with (first | (refine wpList_load_row rfl 27 _ rfl b2 rfl 27 _ (0, 0) _ HR2.out Tryd.underlying27 rfl (by kernel_rfl) ?_) | (refine wpList_load_row rfl 27 _ rfl b5 rfl 27 _ (0, 0) _ HR5.out Tryd.underlying27 rfl (by kernel_rfl) ?_))
  refine (HSS.out _).mono ?_
  rintro e w7 ⟨rfl, hb⟩
  have HB7 := Lib.hid (HB6.out.trans (hb.mono HB6.out.size))
  have HR3 := Lib.hid (HR3.out.on hb)
  have HR6 := Lib.hid (HR6.out.on hb)
  have HR4 := Lib.hid (HR4.out.on hb)
  have HR5 := Lib.hid (HR5.out.on hb)
  clear hb
  go_wp2_with (first | (refine wpList_load_row rfl 27 _ rfl b3 rfl 27 _ (0, 0) _ HR3.out Tryd.underlying27 rfl (by kernel_rfl) ?_) | (refine wpList_load_row rfl 27 _ rfl b6 rfl 27 _ (0, 0) _ HR6.out Tryd.underlying27 rfl (by kernel_rfl) ?_))
  refine (HST.out _).mono ?_
  rintro e w8 ⟨rfl, hb⟩
  have HB8 := Lib.hid (HB7.out.trans (hb.mono HB7.out.size))
  have HR4 := Lib.hid (HR4.out.on hb)
  have HR5 := Lib.hid (HR5.out.on hb)
  clear hb
  go_wp2_with (first | (refine wpList_load_row rfl 27 _ rfl b4 rfl 27 _ (0, 0) _ HR4.out Tryd.underlying27 rfl (by kernel_rfl) ?_) | (refine wpList_load_row rfl 27 _ rfl b5 rfl 27 _ (0, 0) _ HR5.out Tryd.underlying27 rfl (by kernel_rfl) ?_))
  refine (HSS.out _).mono ?_
  rintro e w9 ⟨rfl, hb⟩
  have HB9 := Lib.hid (HB8.out.trans (hb.mono HB8.out.size))
  clear hb
  go_wp2_with fail
  go_ret
  exact ⟨by simp, HB9.out⟩

theorem bulk_string {H : Type} (s : ByteArray) : s.size ≤ Rows.uptoBulk (DataW.lit (H := H) (.string s.data.toList)) := by
  have hts : s.data.toList.length = s.size := (Lib.size_eq s).symm
  simp only [Rows.uptoBulk]
  omega
set_option maxRecDepth 100000 in
theorem contract (H : Type) (enc : TypeId × Value → H) (W : World) (base : Nat) (args : Array Value) (ds gs : List (DataW H)) (before : List MemPlace)
    (hval : ∀ (j : Nat) t v, Tryd.f4.params[j]? = some t → args[j]? = some v → Value.okWide Tryd.prog W .any base t v)
    (hW : DataW.Whole enc Tryd.prog Tryd.f4.params.toList Rows.verbsReadsSpec.vars false W args.toList ds gs before) (hG : Good W) (hk : Rows.uptoSmall H (ds ++ gs) = true) :
    Calls Tryd.prog 4 args W fun e W' => ∃ v, e = .returned v ∧ Rows.verbsReadsSpec.post enc Tryd.prog Tryd.f4 false true false false W args v W' := by
  have hW' := hW
  obtain ⟨p, q, hA0, hV, rfl, hfz, hnd⟩ := hW
  have hA : DataW.TrodAll enc Tryd.prog W 0 (fun _ => true) true Tryd.f4.params.toList args.toList ds p := hA0
  rw [Tryd.params4] at hA hval
  obtain ⟨v0, vs0, d0, ds0, p0, q0, hargs, rfl, rfl, h0, r0⟩ := trodAll_cons hA
  obtain ⟨v1, vs1, d1, ds1, p1, q1, rfl, rfl, rfl, h1, r1⟩ := trodAll_cons r0
  obtain ⟨rfl, rfl, rfl⟩ := trodAll_nil r1
  obtain rfl : args = #[v0, v1] := by cases args; simp_all
  obtain ⟨rfl, rfl⟩ := trodVars_none hV
  obtain ⟨s, rfl, rfl, rfl, ws⟩ := Go.ChangeMaps.open_string Tryd.underlying9 (hval 0 9 v0 rfl rfl) h0
  obtain ⟨t, rfl, rfl, rfl, wt⟩ := Go.ChangeMaps.open_string Tryd.underlying9 (hval 1 9 v1 rfl rfl) h1
  have hb := bulk_le hk
  clear hA0
  have hs : s.size < 4294967281 := by
    have h1 := bulk_string (H := H) s
    simp only [List.cons_append, List.nil_append, Rows.uptoBulkAll] at hb
    omega
  have ht : t.size < 4294967281 := by
    have h1 := bulk_string (H := H) t
    simp only [List.cons_append, List.nil_append, Rows.uptoBulkAll] at hb
    omega
  simp only [List.append_nil] at hW'
  refine (walk s t W hG hs ht).mono fun e W' ⟨he, hb⟩ => ?_
  subst he
  exact ⟨_, rfl, _, _, _, [], _, [], hW', trodAll_mk1 (shut_bool Tryd.underlying4 _), trodAll_mk2 (Go.ChangeMaps.shut_string Tryd.underlying9 ws) (Go.ChangeMaps.shut_string Tryd.underlying9 wt), rfl, hb.frame _, fun h => by cases h⟩

theorem reads (os : Os) {H : Type} (enc : TypeId × Value → H) : ∃ places, DataW.whole enc Tryd.prog ((laidWorld os).forCall (fun _ _ => 0) ⟨#[], #[.string ByteArray.empty, .string ByteArray.empty], []⟩).memory Tryd.f4.params.toList Rows.verbsReadsSpec.vars false (#[.string ByteArray.empty, .string ByteArray.empty] : Array Value).toList 8 = some ([.lit (.string []), .lit (.string [])], [], places) :=
  ⟨[], by kernel_rfl⟩

set_option maxRecDepth 100000 in
theorem lifted (os : Os) (started : os.Started) (H : Type) (enc : TypeId × Value → H) (F : Stop.Interp) :
    ReturnsInHanded {} Tryd.checked os 4 .any ((Rows.OpenSpec.upto Rows.verbsReadsSpec).preRow enc Tryd.prog Tryd.f4 Rows.verbsReadsUptoRow.domain false Rows.verbsReadsUptoRow.laid) (((Rows.OpenSpec.upto Rows.verbsReadsSpec).at F).post enc Tryd.prog Tryd.f4 false true false false) := by
  obtain ⟨places, hx⟩ := reads os enc
  refine returnsInHanded_of_row (C := Tryd.checked) (s := Rows.OpenSpec.upto Rows.verbsReadsSpec) own started (by kernel_rfl) Tryd.func4
    (witness_row_at (enc := enc) (C := Tryd.checked) false (laidWorld os) #[.string ByteArray.empty, .string ByteArray.empty] (World.laidAll_os _ _ _) (by kernel_rfl) (by kernel_rfl) (by kernel_rfl)
      (OpenSpec.preRow_of_cond 8 hx (by kernel_rfl) (fun k hk => by cases hk; kernel_rfl) (by kernel_rfl) (by show laidMetH Tryd.prog laidAll _; rw [laid_plain]; exact laid_met os #[.string ByteArray.empty, .string ByteArray.empty]))) ?_
  intro W base args ds gs before hval hW _ hcond _ hL hS _
  exact contract H enc W base args ds gs before hval hW (good_of_laid hL hS) (hcond _ rfl)

theorem said : Rows.VerbsReadsUptoSaid :=
  OpenClaim.holds_of_cond 4 Tryd.f4 rfl rfl rfl rfl rfl rfl rfl ⟨rfl, rfl, rfl, rfl, rfl⟩ rfl rfl rfl rfl rfl (by kernel_rfl) Tryd.func4 (by kernel_rfl)
    (of_decide_eq_true (by kernel_rfl)) (by unfold Func.isWrapper; first | (rw [if_pos (by decide +kernel)]; kernel_rfl) | (rw [if_neg (by decide +kernel)]; exact ⟨rfl, rfl⟩))
    (fun os started H enc _ F => by rw [OpenClaim.pre_eq_preRow]; exact lifted os started H enc F)

theorem plain (f : FuncId) (fn : Func) (hf : Tryd.pinned.checked.prog.funcNamed "stint/stintlaw07.VerbsReads" = some f) (hfn : Tryd.pinned.checked.prog.funcs[f]? = some fn) :
    false = Tryd.pinned.checked.prog.looks [] ∧ ∀ (j : Nat) t, fn.params[j]? = some t → Tryd.pinned.checked.prog.wantsStandIn t = false := by
  obtain rfl : f = 4 := Option.some.inj ((show Tryd.prog.funcNamed "stint/stintlaw07.VerbsReads" = some 4 by kernel_rfl).symm.trans hf) |>.symm
  obtain rfl : fn = Tryd.f4 := (Option.some.inj (Tryd.func4.symm.trans hfn)).symm
  refine ⟨by kernel_rfl, fun j t ht => ?_⟩
  rw [Tryd.params4] at ht
  have hm : t ∈ [9, 9] := by simpa using Array.mem_of_getElem? ht
  have hall : ([9, 9].all fun u => !Tryd.prog.wantsStandIn u) = true := by kernel_rfl
  exact (show Tryd.prog.wantsStandIn t = false by simpa using List.all_eq_true.1 hall t hm)

/-- THE CARD -/
theorem card : Rows.VerbsReadsUptoCardSaid :=
  Claim7.holds_tied_plain_at .later [] _ _ _ _ said (fun _ h => by cases h) (by kernel_rfl) (fun _ h => by cases h) verbsReadsUpto_row_tie rfl ⟨rfl, rfl⟩ (by kernel_rfl) rfl plain (by kernel_rfl)
end Go.Proofs.YtlhkelgkkfnfoaaDoor.reads
