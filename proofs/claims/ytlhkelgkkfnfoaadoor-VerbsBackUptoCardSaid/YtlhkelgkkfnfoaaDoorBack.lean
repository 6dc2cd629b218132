/- VerbsBack: what may be done is written, in a line that isn't too long, and read back. -/
import Derived.Test.YtlhkelgkkfnfoaaDoorE6
import Derived.Test.YtlhkelgkkfnfoaaDoorD2
namespace Go.Proofs.YtlhkelgkkfnfoaaDoor.back
open Go.ChangeShapes Go.WideShapes Go.ChangeAt Go.RowKit

/-- a row of the call's own -/
def RowAt (b : Nat) (cs : Array Value) (w : World) : Prop := w.heap[b]? = some (.cells cs 27 (0, 0))
theorem RowAt.on {b : Nat} {cs : Array Value} {w w' : World} (h : RowAt b cs w) (hb : Below w.heap.size w w') : RowAt b cs w' := (hb.block _ (lt_of_heap h)).trans h
/-- a new row, written over -/
def laid (w : World) (c : CmdN) : World := (w.alloc (.cells zcells 27)).setRow w.heap.size (c.cells (.slice none 0 0))
theorem laid_new (w : World) : (w.alloc (.cells zcells 27)).heap[w.heap.size]? = some (.cells zcells 27 (0, 0)) := heap_alloc_last _ _
theorem RowAt.laid {b : Nat} {cs : Array Value} {w : World} (h : RowAt b cs w) (d : CmdN) : RowAt b cs (laid w d) := by
  have hl := lt_of_heap h
  exact (setRow_other _ _ _ _ (by omega)).trans ((Below.heap_alloc _ _ _ hl).trans h)
theorem RowAt.new (c : CmdN) (w : World) : RowAt w.heap.size (c.cells (.slice none 0 0)) (back.laid w c) := setRow_heap _ _ _ _ _ _ (laid_new w)
theorem below_laid {w0 w : World} (h : Below w0.heap.size w0 w) (c : CmdN) : Below w0.heap.size w0 (back.laid w c) := below_setRow' (h.alloc h.size _) _ h.size _

/-- what can't be written may not be done -/
theorem no_check {c : CmdN} {n : Nat} (h : (rightB c && ((c.kind == 1) || n == 0)) = false) : errB (checkB c n) = 72 := by
  have : checkB c n = false := by
    rw [checkB]
    cases hr : rightB c
    · rfl
    · rw [hr, Bool.true_and, Bool.or_eq_false_iff] at h
      have hk : ¬ c.kind = 1 := by simpa using h.1
      have hn : ¬ n = 0 := by simpa using h.2
      rw [sizeOf, if_neg hk]
      simp; omega
  rw [this]; rfl

set_option maxHeartbeats 2000000 in
set_option maxRecDepth 20000 in
theorem walk (c : CmdN) (a : Option Addr) (n m : Nat) (bs : Nat → Int) (w : World) (hg : Good w) (hc : CmdIn w c a n m bs) :
    Calls Tryd.prog 7 #[.agg (c.cells (.slice a n m))] w fun e w' => e = .returned (.bool true) ∧ Below w.heap.size w w' := by
  have HG0 := Lib.hid hg
  have HG := Lib.hid (hg.below ((Below.refl w.heap.size w).alloc (Nat.le_refl _) (.cells (c.cells (.slice a n m)) 27)))
  have HK := Lib.hid (fun w => check_any c a n m w (by have := hc.tube; omega))
  have HP := Lib.hid (fun w hg => print_any c a n m w hg (by have := hc.tube; omega))
  have HT := Lib.hid hc.tube
  clear hc hg
  by_cases hok : (rightB c && ((c.kind == 1) || n == 0)) = false
  · rw [printRes, hok] at HP
    rw [no_check hok] at HK
    simp only [Bool.false_eq_true, if_false] at HP
    clear hok HT
    obtain ⟨kind, id, pri, delay, ttr, number, tube⟩ := c
    simp only [CmdN.cells] at HG HK HP ⊢
    go_enter Tryd.func7, Tryd.ntmps7
    go_wp2_with fail
    refine (shown_any _ HG.out).mono ?_
    rintro e w1 ⟨rfl, hb⟩
    obtain ⟨hb1, hz1, hr1⟩ := below_after hb
    have HB1 := Lib.hid hb1
    have HR1 := Lib.hid (show RowAt w.heap.size #[.int .i64 kind, .int .i64 id, .int .i64 pri, .int .i64 delay, .int .i64 ttr, .int .i64 number, .string tube, .slice a n m] w1 from hr1)
    clear hb hb1 hr1 hz1 HG
    go_wp2_with (first | (refine wpList_load_row rfl 27 _ rfl w.heap.size rfl 27 _ (0, 0) _ HR1.out Tryd.underlying27 rfl (by kernel_rfl) ?_))
    refine (HK.out _).mono ?_
    rintro e w2 ⟨rfl, hb⟩
    have HB2 := Lib.hid (HB1.out.trans (hb.mono HB1.out.size))
    have HR2 := Lib.hid (HR1.out.on hb)
    clear hb HB1 HR1 HK
    go_wp2_with (first | (refine wpList_load_row rfl 27 _ rfl w.heap.size rfl 27 _ (0, 0) _ HR2.out Tryd.underlying27 rfl (by kernel_rfl) ?_))
    refine (HP.out _ (HG0.out.below HB2.out)).mono ?_
    rintro e w3 ⟨rfl, hb⟩
    have HB3 := Lib.hid (HB2.out.trans (hb.mono HB2.out.size))
    clear hb HB2 HR2 HP
    go_wp2_with fail
    go_ret
    exact ⟨by first | rfl | simp, HB3.out⟩
  · have hok' : (rightB c && ((c.kind == 1) || n == 0)) = true := by
      cases h : (rightB c && ((c.kind == 1) || n == 0))
      · exact absurd h hok
      · rfl
    rw [printRes, if_pos hok'] at HP
    rw [Bool.and_eq_true, rightB, Bool.and_eq_true, decide_eq_true_eq] at hok'
    obtain ⟨⟨hk, hr⟩, _⟩ := hok'
    obtain ⟨k, hkk⟩ : ∃ k : Nat, c.kind = k := ⟨c.kind.toNat, by omega⟩
    rw [show c.kind.toNat = k by omega] at HP hr
    have h1 : 1 ≤ k := by omega
    have h26 : k < 26 := by omega
    have HPL := Lib.hid (parse_line h1 h26 hkk hr)
    have HLL := Lib.hid (line_len h26 hr)
    have HLI := Lib.hid (line_is k c)
    obtain ⟨ln, hln⟩ : ∃ ln : ByteArray, ln = ⟨(lineL k c).toArray⟩ := ⟨_, rfl⟩
    have hls : ln.size = (lineL k c).length := by rw [hln]; simp [ByteArray.size]
    have HSZ := Lib.hid (show ln.size ≤ 222 by rw [hls]; exact HLL.out)
    have HPA := Lib.hid (fun w hg => parse_any ln w hg (by have := HSZ.out; omega))
    rw [← hln] at HPL HP
    rw [HPL.out] at HPA
    obtain ⟨vb, hvb⟩ : ∃ vb : ByteArray, vb = ⟨(verbAt k).toArray⟩ := ⟨_, rfl⟩
    have HNM := Lib.hid (fun w => name_any k w)
    rw [nameB, if_pos (by omega), show ((k : Nat) : Int).toNat = k by omega, ← hvb] at HNM
    have hvs : vb.size = (verbAt k).length := by rw [hvb]; simp [ByteArray.size]
    have hle : vb.size ≤ ln.size := by rw [hvs, hls, HLI.out, List.length_append]; omega
    have hpre : ln.extract 0 vb.size = vb := data_ext (by
      rw [extract_take, hvs]
      show ln.data.toList.take _ = vb.data.toList
      rw [show ln.data.toList = lineL k c by rw [hln], show vb.data.toList = verbAt k by rw [hvb], HLI.out, List.take_left])
    have HSM := Lib.hid (fun w => same_refl c w (by have := HT.out; omega))
    have HSET := Lib.hid (show (c.cells (.slice a n m)).setIfInBounds 7 (.slice none 0 0) = c.cells (.slice none 0 0) from rfl)
    have HC0 := Lib.hid (show ∀ w, RowAt w.heap.size (c.cells (.slice none 0 0)) w → True from fun _ _ => trivial)
    clear hok hk hr hln hls hvb hvs HPL HLL HLI HT HC0
    generalize errB (checkB c n) = er at HK
    go_enter Tryd.func7, Tryd.ntmps7
    go_wp2_with fail
    refine (shown_any _ HG.out).mono ?_
    rintro e w1 ⟨rfl, hb⟩
    obtain ⟨hb1, hz1, hr1⟩ := below_after hb
    have HB1 := Lib.hid hb1
    have HR1 := Lib.hid (show RowAt w.heap.size (c.cells (.slice a n m)) w1 from hr1)
    clear hb hb1 hr1 hz1 HG
    go_wp2_with (first | (refine wpList_load_row rfl 27 _ rfl w.heap.size rfl 27 _ (0, 0) _ HR1.out Tryd.underlying27 rfl (by kernel_rfl) ?_))
    refine (HK.out _).mono ?_
    rintro e w2 ⟨rfl, hb⟩
    have HB2 := Lib.hid (HB1.out.trans (hb.mono HB1.out.size))
    have HR2 := Lib.hid (HR1.out.on hb)
    clear hb HB1 HR1 HK
    go_wp2_with (first | (refine wpList_load_row rfl 27 _ rfl w.heap.size rfl 27 _ (0, 0) _ HR2.out Tryd.underlying27 rfl (by kernel_rfl) ?_))
    refine (HP.out _ (HG0.out.below HB2.out)).mono ?_
    rintro e w3 ⟨rfl, hb⟩
    have HB3 := Lib.hid (HB2.out.trans (hb.mono HB2.out.size))
    have HR3 := Lib.hid (HR2.out.on hb)
    clear hb HB2 HR2 HP
    go_wp2_with fail
    refine (HPA.out _ (HG0.out.below HB3.out)).mono ?_
    rintro e w4 ⟨rfl, hb⟩
    have HB4 := Lib.hid (HB3.out.trans (hb.mono HB3.out.size))
    have HR4 := Lib.hid (HR3.out.on hb)
    clear hb HB3 HR3 HPA HG0
    go_upto_region 7 with (refine wpList_store_row rfl 27 _ _ rfl w4.heap.size _ rfl rfl 27 zcells (laid_new w4) (by kernel_rfl) rfl (cells_one _ rfl) ?_)
    have HR5 := Lib.hid (RowAt.new c w4)
    have HR5' := Lib.hid (HR4.out.laid c)
    have HB5 := Lib.hid (below_laid HB4.out c)
    have HNE := Lib.hid (show w.heap.size ≠ w4.heap.size from fun e => by have := lt_of_heap HR4.out; omega)
    rw [show (w4.alloc (.cells #[.int .i64 0, .int .i64 0, .int .i64 0, .int .i64 0, .int .i64 0, .int .i64 0, .string ⟨#[]⟩, .slice none 0 0] 27)).setRow w4.heap.size (c.cells (.slice none 0 0)) = back.laid w4 c from rfl]
    obtain ⟨b5, hb5⟩ : ∃ b, b = w4.heap.size := ⟨_, rfl⟩
    rw [← hb5] at HR5 HNE ⊢
    generalize back.laid w4 c = W5 at HR5 HR5' HB5 ⊢
    clear hb5 HB4 HR4
    have hx7 : W5.cell? ⟨w.heap.size, 7, none⟩ = some (.slice a n m) := (cell_of_row _ _ 7 _ 27 (0, 0) HR5'.out).trans rfl
    have hf7 : W5.frozen? ⟨w.heap.size, 7, none⟩ = false := frozen_of_row _ _ 7 _ 27 HR5'.out
    go_upto_region 8 with (fail)
    have HR6 := Lib.hid (show RowAt w.heap.size (c.cells (.slice none 0 0)) (W5.setCell ⟨w.heap.size, 7, none⟩ (.slice none 0 0)) by rw [← HSET.out]; exact row_set HR5'.out _)
    have HR6' := Lib.hid (show RowAt b5 (c.cells (.slice none 0 0)) (W5.setCell ⟨w.heap.size, 7, none⟩ (.slice none 0 0)) from (Below.heap_setCell _ _ _ _ (fun e => HNE.out e.symm)).trans HR5.out)
    have HB6 := Lib.hid (HB5.out.setCell (p := ⟨w.heap.size, 7, none⟩) (Nat.le_refl _) (.slice none 0 0))
    generalize W5.setCell ⟨w.heap.size, 7, none⟩ (.slice none 0 0) = W6 at HR6 HR6' HB6 ⊢
    clear hx7 hf7 HR5 HR5' HB5 HNE HSET
    go_wp2_with (first | (refine wpList_load_row rfl 27 _ rfl b5 rfl 27 _ (0, 0) _ HR6'.out Tryd.underlying27 rfl (by kernel_rfl) ?_) | (refine wpList_load_row rfl 27 _ rfl w.heap.size rfl 27 _ (0, 0) _ HR6.out Tryd.underlying27 rfl (by kernel_rfl) ?_))
    refine (HSM.out _).mono ?_
    rintro e w7 ⟨rfl, hb⟩
    have HB7 := Lib.hid (HB6.out.trans (hb.mono HB6.out.size))
    have hx0 : w7.cell? ⟨w.heap.size, 0, none⟩ = some (.int .i64 k) := (cell_of_row _ _ 0 _ 27 (0, 0) (HR6.out.on hb)).trans (by rw [← hkk]; rfl)
    clear hb HB6 HR6 HR6' HSM
    go_wp2_with fail
    refine (HNM.out _).mono ?_
    rintro e w8 ⟨rfl, hb⟩
    have HB8 := Lib.hid (HB7.out.trans (hb.mono HB7.out.size))
    clear hb HB7 hx0 HNM
    have hsz := HSZ.out
    go_wp2_with fail
    go_ret
    exact ⟨by first | rfl | simp, HB8.out⟩

set_option maxRecDepth 100000 in
theorem contract (H : Type) (enc : TypeId × Value → H) (W : World) (base : Nat) (args : Array Value) (ds gs : List (DataW H)) (before : List MemPlace)
    (hval : ∀ (j : Nat) t v, Tryd.f7.params[j]? = some t → args[j]? = some v → Value.okWide Tryd.prog W .any base t v)
    (hW : DataW.Whole enc Tryd.prog Tryd.f7.params.toList Rows.verbsBackSpec.vars false W args.toList ds gs before) (hG : Good W) (hk : Rows.uptoSmall H (ds ++ gs) = true) :
    Calls Tryd.prog 7 args W fun e W' => ∃ v, e = .returned v ∧ Rows.verbsBackSpec.post enc Tryd.prog Tryd.f7 false true false false W args v W' := by
  have hW' := hW
  obtain ⟨p, q, hA0, hV, rfl, hfz, hnd⟩ := hW
  have hA : DataW.TrodAll enc Tryd.prog W 0 (fun _ => true) true Tryd.f7.params.toList args.toList ds p := hA0
  rw [Tryd.params7] at hA hval
  obtain ⟨v0, vs0, d0, ds0, p0, q0, hargs, rfl, rfl, h0, r0⟩ := trodAll_cons hA
  obtain ⟨rfl, rfl, rfl⟩ := trodAll_nil r0
  obtain rfl : args = #[v0] := by cases args; simp_all
  obtain ⟨rfl, rfl⟩ := trodVars_none hV
  have hlt : ∀ x ∈ p0, x.block < W.heap.size := fun x hx => by simpa using hA0.lt x (by simpa using hx)
  obtain ⟨c, a, n, m, bs, rfl, hc⟩ := open_cmd (hval 0 27 v0 rfl rfl) h0 hlt hk
  clear hA0
  simp only [List.append_nil] at hW'
  refine (walk c a n m bs W hG hc).mono fun e W' ⟨he, hb⟩ => ?_
  subst he
  exact ⟨_, rfl, _, _, _, [], _, [], hW', trodAll_mk1 (shut_bool Tryd.underlying4 _), trodAll_mk1 (Below.trod laidOut readable27 below27 h0 hb hlt), rfl, hb.frame _, fun h => by cases h⟩

theorem reads (os : Os) {H : Type} (enc : TypeId × Value → H) : ∃ places, DataW.whole enc Tryd.prog ((laidWorld os).forCall (fun _ _ => 0) ⟨#[], #[.agg #[.int .i64 0, .int .i64 0, .int .i64 0, .int .i64 0, .int .i64 0, .int .i64 0, .string ByteArray.empty, .slice none 0 0]], []⟩).memory Tryd.f7.params.toList Rows.verbsBackSpec.vars false (#[.agg #[.int .i64 0, .int .i64 0, .int .i64 0, .int .i64 0, .int .i64 0, .int .i64 0, .string ByteArray.empty, .slice none 0 0]] : Array Value).toList 8 = some ([.agg [.lit (.int .i64 0), .lit (.int .i64 0), .lit (.int .i64 0), .lit (.int .i64 0), .lit (.int .i64 0), .lit (.int .i64 0), .lit (.string []), .nil]], [], places) :=
  ⟨[], by kernel_rfl⟩

set_option maxRecDepth 100000 in
theorem lifted (os : Os) (started : os.Started) (H : Type) (enc : TypeId × Value → H) (F : Stop.Interp) :
    ReturnsInHanded {} Tryd.checked os 7 .any ((Rows.OpenSpec.upto Rows.verbsBackSpec).preRow enc Tryd.prog Tryd.f7 Rows.verbsBackUptoRow.domain false Rows.verbsBackUptoRow.laid) (((Rows.OpenSpec.upto Rows.verbsBackSpec).at F).post enc Tryd.prog Tryd.f7 false true false false) := by
  obtain ⟨places, hx⟩ := reads os enc
  refine returnsInHanded_of_row (C := Tryd.checked) (s := Rows.OpenSpec.upto Rows.verbsBackSpec) own started (by kernel_rfl) Tryd.func7
    (witness_row_at (enc := enc) (C := Tryd.checked) false (laidWorld os) #[.agg #[.int .i64 0, .int .i64 0, .int .i64 0, .int .i64 0, .int .i64 0, .int .i64 0, .string ByteArray.empty, .slice none 0 0]] (World.laidAll_os _ _ _) (by kernel_rfl) (by kernel_rfl) (by kernel_rfl)
      (OpenSpec.preRow_of_cond 8 hx (by kernel_rfl) (fun k hk => by cases hk; kernel_rfl) (by kernel_rfl) (by show laidMetH Tryd.prog laidAll _; rw [laid_plain]; exact laid_met os #[.agg #[.int .i64 0, .int .i64 0, .int .i64 0, .int .i64 0, .int .i64 0, .int .i64 0, .string ByteArray.empty, .slice none 0 0]]))) ?_
  intro W base args ds gs before hval hW _ hcond _ hL hS _
  exact contract H enc W base args ds gs before hval hW (good_of_laid hL hS) (hcond _ rfl)

theorem said : Rows.VerbsBackUptoSaid :=
  OpenClaim.holds_of_cond 7 Tryd.f7 rfl rfl rfl rfl rfl rfl rfl ⟨rfl, rfl, rfl, rfl, rfl⟩ rfl rfl rfl rfl rfl (by kernel_rfl) Tryd.func7 (by kernel_rfl)
    (of_decide_eq_true (by kernel_rfl)) (by unfold Func.isWrapper; first | (rw [if_pos (by decide +kernel)]; kernel_rfl) | (rw [if_neg (by decide +kernel)]; exact ⟨rfl, rfl⟩))
    (fun os started H enc _ F => by rw [OpenClaim.pre_eq_preRow]; exact lifted os started H enc F)

theorem plain (f : FuncId) (fn : Func) (hf : Tryd.pinned.checked.prog.funcNamed "stint/stintlaw07.VerbsBack" = some f) (hfn : Tryd.pinned.checked.prog.funcs[f]? = some fn) :
    false = Tryd.pinned.checked.prog.looks [] ∧ ∀ (j : Nat) t, fn.params[j]? = some t → Tryd.pinned.checked.prog.wantsStandIn t = false := by
  obtain rfl : f = 7 := Option.some.inj ((show Tryd.prog.funcNamed "stint/stintlaw07.VerbsBack" = some 7 by kernel_rfl).symm.trans hf) |>.symm
  obtain rfl : fn = Tryd.f7 := (Option.some.inj (Tryd.func7.symm.trans hfn)).symm
  refine ⟨by kernel_rfl, fun j t ht => ?_⟩
  rw [Tryd.params7] at ht
  have hm : t ∈ [27] := by simpa using Array.mem_of_getElem? ht
  have hall : ([27].all fun u => !Tryd.prog.wantsStandIn u) = true := by kernel_rfl
  exact (show Tryd.prog.wantsStandIn t = false by simpa using List.all_eq_true.1 hall t hm)

/-- THE CARD -/
theorem card : Rows.VerbsBackUptoCardSaid :=
  Claim7.holds_tied_plain_at .later [] _ _ _ _ said (fun _ h => by cases h) (by kernel_rfl) (fun _ h => by cases h) verbsBackUpto_row_tie rfl ⟨rfl, rfl⟩ (by kernel_rfl) rfl plain (by kernel_rfl)
end Go.Proofs.YtlhkelgkkfnfoaaDoor.back
