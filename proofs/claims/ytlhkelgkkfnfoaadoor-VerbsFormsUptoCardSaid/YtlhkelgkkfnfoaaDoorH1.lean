/- VerbsForms: the walk. -/
import Derived.Test.YtlhkelgkkfnfoaaDoorH0
import Derived.Test.YtlhkelgkkfnfoaaDoorD2
import Derived.Deep.RegionHeld3
namespace Go.Proofs.YtlhkelgkkfnfoaaDoor.forms
open Go.ChangeShapes Go.WideShapes Go.ChangeAt Go.RowKit

/-- a row of the call's own -/
def RowAt (b : Nat) (cs : Array Value) (w : World) : Prop := w.heap[b]? = some (.cells cs 27 (0, 0))
theorem RowAt.on {b : Nat} {cs : Array Value} {w w' : World} (h : RowAt b cs w) (hb : Below w.heap.size w w') : RowAt b cs w' := (hb.block _ (lt_of_heap h)).trans h
/-- a new row, written over -/
def laid (w : World) (c : CmdN) : World := (w.alloc (.cells zcells 27)).setRow w.heap.size (c.cells (.slice none 0 0))
theorem laid_new (w : World) : (w.alloc (.cells zcells 27)).heap[w.heap.size]? = some (.cells zcells 27 (0, 0)) := heap_alloc_last _ _
theorem RowAt.laid {b : Nat} {cs : Array Value} {w : World} (h : RowAt b cs w) (d : CmdN) : RowAt b cs (laid w d) := by
  have hl := lt_of_heap h
  exact (setRow_other _ _ _ _ (by omega)).trans ((Below.heap_alloc _ _ _ hl).trans h)
theorem RowAt.new (c : CmdN) (w : World) : RowAt w.heap.size (c.cells (.slice none 0 0)) (forms.laid w c) := setRow_heap _ _ _ _ _ _ (laid_new w)
theorem below_laid {w0 w : World} (h : Below w0.heap.size w0 w) (c : CmdN) : Below w0.heap.size w0 (forms.laid w c) := below_setRow' (h.alloc h.size _) _ h.size _

/-- what the loop leans on -/
structure In (w0 : World) (b g h : Nat) (cs : Array Value) (xs ys : List ByteArray) (w : World) : Prop where
  below : Below w0.heap.size w0 w
  row : RowAt b cs w
  one : TextsAt w g 0 xs
  two : TextsAt w h 0 ys
theorem In.same {w0 w w' : World} {b g h : Nat} {cs : Array Value} {xs ys : List ByteArray} (k : In w0 b g h cs xs ys w) (e : w'.heap = w.heap) (hb : Below w0.heap.size w0 w') : In w0 b g h cs xs ys w' :=
  ⟨hb, by unfold RowAt; rw [e]; exact k.row, fun j x hx => by have := k.one j x hx; unfold World.cell? at this ⊢; rw [e]; exact this, fun j x hx => by have := k.two j x hx; unfold World.cell? at this ⊢; rw [e]; exact this⟩
theorem bad_zero {s : ByteArray} {c : CmdN} {x : Int} (h : parseRes s = (c, x)) (hx : x ≠ 0) : c = zeroC := by
  rw [parseRes] at h
  split at h
  · cases h; rfl
  · split at h
    · cases h; rfl
    · split at h
      · cases h; rfl
      · cases h; exact absurd rfl hx

set_option maxHeartbeats 2000000 in
set_option maxRecDepth 20000 in
theorem walk_bad (s : ByteArray) (w : World) (hg : Good w) (hs : s.size < 4294967281) (h : (parseRes s).2 ≠ 0) :
    Calls Tryd.prog 8 #[.string s] w fun e w' => e = .returned (.bool true) ∧ Below w.heap.size w w' := by
  have HPS := Lib.hid (fun w hg => parse_any s w hg hs)
  have hz : (parseRes s).1 = zeroC := bad_zero (c := (parseRes s).1) (x := (parseRes s).2) (Prod.ext rfl rfl) h
  rw [hz] at HPS
  generalize (parseRes s).2 = x at HPS h
  have HSM := Lib.hid (fun w => same_refl zeroC w (by decide))
  have hx : ((x : Int) != 0) = true := by simpa using h
  have HG := Lib.hid hg
  clear hg hs hz h
  go_enter Tryd.func8, Tryd.ntmps8
  go_wp2_with fail
  refine (shown_any _ HG.out).mono ?_
  rintro e w1 ⟨rfl, hb1⟩
  have HB1 := Lib.hid hb1
  clear hb1
  go_wp2_with fail
  refine (HPS.out _ (HG.out.below HB1.out)).mono ?_
  rintro e w2 ⟨rfl, hb⟩
  have HB2' := Lib.hid (HB1.out.trans (hb.mono HB1.out.size))
  clear hb
  go_upto_region 3 with (refine wpList_store_row rfl 27 _ _ rfl w2.heap.size _ rfl rfl 27 zcells (laid_new w2) (by kernel_rfl) rfl (cells_one _ rfl) ?_)
  have HR2 := Lib.hid (RowAt.new zeroC w2)
  have HB2 := Lib.hid (below_laid HB2'.out zeroC)
  rw [show (w2.alloc (.cells #[.int .i64 0, .int .i64 0, .int .i64 0, .int .i64 0, .int .i64 0, .int .i64 0, .string ⟨#[]⟩, .slice none 0 0] 27)).setRow w2.heap.size (zeroC.cells (.slice none 0 0)) = forms.laid w2 zeroC from rfl]
  obtain ⟨b2, hb2⟩ : ∃ b, b = w2.heap.size := ⟨_, rfl⟩
  rw [← hb2] at HR2 ⊢
  generalize forms.laid w2 zeroC = W2 at HR2 HB2 ⊢
  clear hb2 HB2'
  have hx0 : W2.cell? ⟨b2, 0, none⟩ = some (.int .i64 0) := (cell_of_row _ _ 0 _ 27 (0, 0) HR2.out).trans rfl
  have hx1 : W2.cell? ⟨b2, 1, none⟩ = some (.int .i64 0) := (cell_of_row _ _ 1 _ 27 (0, 0) HR2.out).trans rfl
  have hx2 : W2.cell? ⟨b2, 2, none⟩ = some (.int .i64 0) := (cell_of_row _ _ 2 _ 27 (0, 0) HR2.out).trans rfl
  have hx3 : W2.cell? ⟨b2, 3, none⟩ = some (.int .i64 0) := (cell_of_row _ _ 3 _ 27 (0, 0) HR2.out).trans rfl
  have hx4 : W2.cell? ⟨b2, 4, none⟩ = some (.int .i64 0) := (cell_of_row _ _ 4 _ 27 (0, 0) HR2.out).trans rfl
  have hx5 : W2.cell? ⟨b2, 5, none⟩ = some (.int .i64 0) := (cell_of_row _ _ 5 _ 27 (0, 0) HR2.out).trans rfl
  have hx6 : W2.cell? ⟨b2, 6, none⟩ = some (.string ⟨#[]⟩) := (cell_of_row _ _ 6 _ 27 (0, 0) HR2.out).trans rfl
  have hx7 : W2.cell? ⟨b2, 7, none⟩ = some (.slice none 0 0) := (cell_of_row _ _ 7 _ 27 (0, 0) HR2.out).trans rfl
  go_wp2_with fail
  refine (HSM.out _).mono ?_
  rintro e w3 ⟨rfl, hb⟩
  have HB3 := Lib.hid (HB2.out.trans (hb.mono HB2.out.size))
  clear hb
  go_wp2_with fail
  go_ret
  exact ⟨by simp, HB3.out⟩

theorem takeH {P : Program} {md : Region.Mode} {ops : Array Oper} {Q : Exit → Act → World → Prop} {S : World → Prop} {fuel : Nat} {listed : Array Bool} {a : Act} {w : World} (i d : Nat) (v : Value) {oi : Oper} (hi : ops[i]? = some oi) (hd : oi.dst = some d)
    (hs : Region.noSelect ops = true) (hf : Region.free md ops listed i = true) (hr : (Region.ready md ops listed).contains i = true)
    (hQ : ∀ c a w, Q (.panic c) (a.put oi.dst v) w → Q (.panic c) a w) (hy : YieldsIf P ops S oi v a) (hS : S w)
    (h : wpAnyH P md ops Q S fuel (listed.setIfInBounds i true) ⟨a.tmps.setIfInBounds d v, a.defers⟩ w) : wpAnyH P md ops Q S (fuel + 1) listed a w :=
  wpAnyH_take hi hs hf hr hQ hy hS (by rw [hd]; exact h)
theorem neq_run (x y : ByteArray) {b : Bool} (h : (x.toList != y.toList) = b) : ∀ W, (binOp .neq 9 (.string x) (.string y)).run Tryd.prog W = .ok (.bool b) W := by
  intro W
  subst h
  go_simp
  simp [bne]
theorem idx_run (g n cap i : Nat) (h : i < n) : ∀ W, (Instr.indexAt 39 (.slice (some ⟨g, 0, none⟩) n cap) (.int .i64 i)).run Tryd.prog W = .ok (.pointer (some ⟨g, i, none⟩)) W := by
  intro W
  have h1 : (0 : Int) ≤ (i : Int) := by omega
  have h2 : (i : Int) < (n : Int) := by omega
  go_simp
theorem ld_run (W : World) (a : Addr) (v : ByteArray) (h : W.cell? a = some (.string v)) : (loadVar 9 a).run Tryd.prog W = .ok (.string v) W := by go_simp
/-- one alone may come up -/
theorem anyH_one {P : Program} {md : Region.Mode} {ops : Array Oper} {Q : Exit → Act → World → Prop} {S : World → Prop} {fuel : Nat} {listed : Array Bool} {a : Act} {w : World} (i : Nat) {o : Oper} (hr : Region.ready md ops listed = [i]) (ho : ops[i]? = some o) (hw : Region.wanted o (yielded ops a.tmps) = true)
    (h : ∀ K : Act → World → Prop, (∀ a w, S w ∧ wpAnyH P md ops Q S fuel (listed.setIfInBounds i true) a w → K a w) → Oper.wp P o a w K Q) : wpAnyH P md ops Q S (fuel + 1) listed a w := by
  refine wpAnyH_all hr (by simp) fun k hk => ?_
  simp only [List.mem_cons, List.not_mem_nil, or_false] at hk
  subst hk
  unfold wpOp
  rw [ho]
  show if Region.wanted o (yielded ops a.tmps) = true then _ else _
  rw [if_pos hw]
  exact .inl (h _ fun a w hh => hh)

theorem texts_bytes : True := trivial
set_option maxHeartbeats 16000000 in
set_option maxRecDepth 20000 in
theorem walk_good (s : ByteArray) (w : World) (hg : Good w) (hs : s.size < 4294967281) (c : CmdN) (h : parseRes s = (c, 0)) :
    Calls Tryd.prog 8 #[.string s] w fun e w' => e = .returned (.bool true) ∧ Below w.heap.size w w' := by
  obtain ⟨k, hkk, h1, h26, hr, hAll⟩ := forms_law h
  have HPS := Lib.hid (fun w hg => parse_any s w hg hs)
  rw [h] at HPS
  have HT := Lib.hid (show c.tube.size ≤ 9223372036854775807 by have := parse_tube s hs; rw [h] at this; exact Nat.le_trans this (by omega))
  have HSM := Lib.hid (fun w => same_refl c w HT.out)
  have HP := Lib.hid (fun w hg => print_any c none 0 0 w hg HT.out)
  have hrb : (rightB c && ((c.kind == 1) || (0 : Nat) == 0)) = true := by
    rw [rightB, hkk, decide_eq_true (by omega : 1 ≤ (k : Int) ∧ (k : Int) ≤ 25), show ((k : Nat) : Int).toNat = k by omega, hr]; simp
  rw [printRes, if_pos hrb, hkk, show ((k : Nat) : Int).toNat = k by omega] at HP
  have HPL := Lib.hid (parse_line h1 h26 hkk hr)
  have HLL := Lib.hid (line_len h26 hr)
  have HLW := Lib.hid (line_words h1 h26 hr)
  obtain ⟨ln, hln⟩ : ∃ ln : ByteArray, ln = ⟨(lineL k c).toArray⟩ := ⟨_, rfl⟩
  have hls : ln.size = (lineL k c).length := by rw [hln]; simp [ByteArray.size]
  have HSZ := Lib.hid (show ln.size ≤ 222 by rw [hls]; exact HLL.out)
  rw [← hln] at HPL HP HLW
  have HPA := Lib.hid (fun w hg => parse_any ln w hg (by have := HSZ.out; omega))
  rw [HPL.out] at HPA
  have HC1 := Lib.hid (fun w => cut_any s w hs)
  have HC2 := Lib.hid (fun w => cut_any ln w (by have := HSZ.out; omega))
  rw [HLW.out] at HC2
  have hlen : (wordsOf s).length = (wordsL k c).length := by have := hAll.length; simpa using this
  have HAT := Lib.hid (show ∀ (i : Nat) (x y : ByteArray), (wordsOf s)[i]? = some x → (wordsL k c)[i]? = some y → AsWas k i x.data.toList y.data.toList from fun i x y hx hy => by
    have := hAll.at i x.data.toList y.data.toList (by rw [List.getElem?_map, hx]; rfl) (by rw [List.getElem?_map, hy]; rfl)
    rwa [Nat.zero_add] at this)
  have HXS := Lib.hid (show ∀ (i : Nat) (x : ByteArray), (wordsOf s)[i]? = some x → x.size ≤ 9223372036854775806 from fun i x hx => by
    have hm := List.mem_of_getElem? hx
    have := words_size s hs x hm
    omega)
  have HWL := Lib.hid (show (wordsOf s).length ≤ 4294967282 by have := wordsOf_le s; omega)
  generalize wordsOf s = xs at HC1 hlen HAT HXS HWL
  generalize wordsL k c = ys at HC2 hlen HAT
  have hneq : (((xs.length : Nat) : Int) != ((ys.length : Nat) : Int)) = false := by simp [hlen]
  have HG := Lib.hid hg
  clear hAll hr hrb hln hls HPL HLL HLW HSZ HT hs hg h
  go_enter Tryd.func8, Tryd.ntmps8
  go_wp2_with fail
  refine (shown_any _ HG.out).mono ?_
  rintro e w1 ⟨rfl, hb1⟩
  have HB1 := Lib.hid hb1
  clear hb1
  go_wp2_with fail
  refine (HPS.out _ (HG.out.below HB1.out)).mono ?_
  rintro e w2 ⟨rfl, hb⟩
  have HB2' := Lib.hid (HB1.out.trans (hb.mono HB1.out.size))
  clear hb
  go_upto_region 3 with (refine wpList_store_row rfl 27 _ _ rfl w2.heap.size _ rfl rfl 27 zcells (laid_new w2) (by kernel_rfl) rfl (cells_one _ rfl) ?_)
  have HR2 := Lib.hid (RowAt.new c w2)
  have HB2 := Lib.hid (below_laid HB2'.out c)
  rw [show (w2.alloc (.cells #[.int .i64 0, .int .i64 0, .int .i64 0, .int .i64 0, .int .i64 0, .int .i64 0, .string ⟨#[]⟩, .slice none 0 0] 27)).setRow w2.heap.size (c.cells (.slice none 0 0)) = forms.laid w2 c from rfl]
  obtain ⟨b2, hb2⟩ : ∃ b, b = w2.heap.size := ⟨_, rfl⟩
  rw [← hb2] at HR2 ⊢
  generalize forms.laid w2 c = W2 at HR2 HB2 ⊢
  clear hb2 HB2'
  go_wp2_with (first | (refine wpList_load_row rfl 27 _ rfl b2 rfl 27 _ (0, 0) _ HR2.out Tryd.underlying27 rfl (by kernel_rfl) ?_))
  refine (HP.out _ (HG.out.below HB2.out)).mono ?_
  rintro e w3 ⟨rfl, hb⟩
  have HB3 := Lib.hid (HB2.out.trans (hb.mono HB2.out.size))
  have HR3 := Lib.hid (HR2.out.on hb)
  clear hb HB2 HR2
  go_wp2_with fail
  refine (HPA.out _ (HG.out.below HB3.out)).mono ?_
  rintro e w4 ⟨rfl, hb⟩
  have HB4 := Lib.hid (HB3.out.trans (hb.mono HB3.out.size))
  have HR4 := Lib.hid (HR3.out.on hb)
  clear hb HB3 HR3
  go_upto_region 7 with (refine wpList_store_row rfl 27 _ _ rfl w4.heap.size _ rfl rfl 27 zcells (laid_new w4) (by kernel_rfl) rfl (cells_one _ rfl) ?_)
  have HR5 := Lib.hid (RowAt.new c w4)
  have HR5' := Lib.hid (HR4.out.laid c)
  have HB5 := Lib.hid (below_laid HB4.out c)
  rw [show (w4.alloc (.cells #[.int .i64 0, .int .i64 0, .int .i64 0, .int .i64 0, .int .i64 0, .int .i64 0, .string ⟨#[]⟩, .slice none 0 0] 27)).setRow w4.heap.size (c.cells (.slice none 0 0)) = forms.laid w4 c from rfl]
  obtain ⟨b5, hb5⟩ : ∃ b, b = w4.heap.size := ⟨_, rfl⟩
  rw [← hb5] at HR5 ⊢
  generalize forms.laid w4 c = W5 at HR5 HR5' HB5 ⊢
  clear hb5 HB4 HR4
  go_wp2_with (first | (refine wpList_load_row rfl 27 _ rfl b2 rfl 27 _ (0, 0) _ HR5'.out Tryd.underlying27 rfl (by kernel_rfl) ?_) | (refine wpList_load_row rfl 27 _ rfl b5 rfl 27 _ (0, 0) _ HR5.out Tryd.underlying27 rfl (by kernel_rfl) ?_))
  refine (HSM.out _).mono ?_
  rintro e w6 ⟨rfl, hb⟩
  have HB6 := Lib.hid (HB5.out.trans (hb.mono HB5.out.size))
  have HR6 := Lib.hid (HR5'.out.on hb)
  clear hb HB5 HR5 HR5'
  go_wp2_with fail
  refine (HC1.out _).mono ?_
  rintro e w7 ⟨hb, g, cap, rfl, htx, hg1, hg2⟩
  have HB7 := Lib.hid (HB6.out.trans (hb.mono HB6.out.size))
  have HR7 := Lib.hid (HR6.out.on hb)
  have HT7 := Lib.hid htx
  have HG7 := Lib.hid hg2
  clear hb HB6 HR6 htx hg1 hg2
  go_wp2_with fail
  refine (HC2.out _).mono ?_
  rintro e w8 ⟨hb, g2, cap2, rfl, htx, hg1, hg2⟩
  have HB8 := Lib.hid (HB7.out.trans (hb.mono HB7.out.size))
  have HIN := Lib.hid (show In w b2 g g2 (c.cells (.slice none 0 0)) xs ys w8 from ⟨HB8.out, HR7.out.on hb, HT7.out.below hb HG7.out, htx⟩)
  clear hb HB7 HR7 HT7 HG7 htx hg1 hg2
  have hbig := HWL.out
  go_wp2_with fail
  go_loopw [13] (fun v wr => ∃ i : Nat, i ≤ xs.length ∧ v = .int .i64 i ∧ In w b2 g g2 (c.cells (.slice none 0 0)) xs ys wr) (fun v _ => xs.length - (intOf v).toNat)
  case atStart => exact ⟨0, Nat.zero_le _, rfl, HIN.out⟩
  case round =>
    obtain ⟨i, hi, rfl, hin⟩ := hrel
    have HI := Lib.hid hin
    clear hin HIN
    by_cases hlt : i < xs.length
    · obtain ⟨x, hx⟩ : ∃ x, xs[i]? = some x := ⟨_, List.getElem?_eq_getElem hlt⟩
      obtain ⟨y, hy⟩ : ∃ y, ys[i]? = some y := ⟨_, List.getElem?_eq_getElem (hlen ▸ hlt)⟩
      have hasw := HAT.out i x y hx hy
      have HXB := Lib.hid (HXS.out i x hx)
      have hc0 : wr.cell? ⟨b2, 0, none⟩ = some (.int .i64 k) := (cell_of_row _ _ 0 _ 27 (0, 0) HI.out.row).trans (by rw [← hkk]; rfl)
      have hcx : wr.cell? ⟨g, i, none⟩ = some (.string x) := by have := HI.out.one i x hx; rwa [Nat.zero_add] at this
      have hcy : wr.cell? ⟨g2, i, none⟩ = some (.string y) := by have := HI.out.two i y hy; rwa [Nat.zero_add] at this
      have hii : (0 : Int) ≤ (i : Int) := by omega
      have hil : (i : Int) < (xs.length : Int) := by omega
      have hiy : (i : Int) < (ys.length : Int) := by omega
      have hld : ∀ (W : World) (a : Addr) (v : ByteArray), W.cell? a = some (.string v) → (loadVar 9 a).run Tryd.prog W = .ok (.string v) W := ld_run
      obtain ⟨tx, htx⟩ : ∃ tx : ByteArray, tx = ⟨(trimD x.data.toList).toArray⟩ := ⟨_, rfl⟩
      have HTX := Lib.hid (fun w => trimmed_any x w HXB.out)
      rw [← htx] at HTX
      unfold AsWas at hasw
      rw [show trimD x.data.toList = tx.toList by rw [htx, ByteArray.toList_eq]] at hasw
      rw [← ByteArray.toList_eq, ← ByteArray.toList_eq] at hasw
      have hcase : (x.toList != y.toList) = false ∨ ((x.toList != y.toList) = true ∧ (tx.toList != y.toList) = false) ∨ ((x.toList != y.toList) = true ∧ (tx.toList != y.toList) = true ∧ k = 1 ∧ i = 3 ∧ (tx.toList == [48]) = true ∧ (y.toList == [49]) = true) := by
        cases h1 : (x.toList != y.toList)
        · exact .inl rfl
        · right
          cases h2 : (tx.toList != y.toList)
          · exact .inl ⟨rfl, rfl⟩
          · right
            rcases hasw with h | h | ⟨ha, hb, hc, hd⟩
            · rw [h] at h1; simp at h1
            · rw [h] at h2; simp at h2
            · exact ⟨rfl, rfl, ha, hb, by rw [hc]; rfl, by rw [hd]; rfl⟩
      clear htx hasw
      by_cases hz : k = 1 ∧ i = 3
      · obtain ⟨rfl, rfl⟩ := hz
        rcases hcase with hxn | ⟨hxn, htn⟩ | ⟨hxn, htn, _, _, hq0, hq1⟩
        · cases hq0 : (tx.toList == [48])
          · go_wp2_with (go_at_call 23; refine (HTX.out _).mono ?_; rintro e wr ⟨rfl, rfl⟩)
            refine wp_region_held (S := fun w' => w'.cell? ⟨g, 3, none⟩ = some (.string x) ∧ w'.cell? ⟨g2, 3, none⟩ = some (.string y)) (by kernel_rfl) ?_
            change wpAnyH _ _ _ _ _ _ _ _ wr.drew
            have HS : (fun w' : World => w'.cell? ⟨g, 3, none⟩ = some (.string x) ∧ w'.cell? ⟨g2, 3, none⟩ = some (.string y)) wr.drew := ⟨hcx, hcy⟩
            have hix : ∀ W, (Instr.indexAt 39 (.slice (some ⟨g, 0, none⟩) ys.length cap) (.int .i64 3)).run Tryd.prog W = .ok (.pointer (some ⟨g, 3, none⟩)) W := idx_run _ _ _ 3 (by omega)
            have hiy2 : ∀ W, (Instr.indexAt 39 (.slice (some ⟨g2, 0, none⟩) ys.length cap2) (.int .i64 3)).run Tryd.prog W = .ok (.pointer (some ⟨g2, 3, none⟩)) W := idx_run _ _ _ 3 (by omega)
            have hn8 : ∀ W, (binOp .neq 9 (.string x) (.string y)).run Tryd.prog W = .ok (.bool false) W := neq_run _ _ hxn
            refine takeH 0 93 (.slice (some ⟨g, 0, none⟩) ys.length cap) rfl (by kernel_rfl) (by kernel_rfl) (by kernel_rfl) (by kernel_rfl) (fun _ _ _ h => h) (.inl ⟨by kernel_rfl, fun W _ => (by kernel_rfl)⟩) HS ?_
            refine takeH 1 94 (.int .i64 3) rfl (by kernel_rfl) (by kernel_rfl) (by kernel_rfl) (by kernel_rfl) (fun _ _ _ h => h) (.inl ⟨by kernel_rfl, fun W _ => (by kernel_rfl)⟩) HS ?_
            refine takeH 2 95 (.pointer (some ⟨g, 3, none⟩)) rfl (by kernel_rfl) (by kernel_rfl) (by kernel_rfl) (by kernel_rfl) (fun _ _ _ h => h) (.inl ⟨by kernel_rfl, fun W _ => addr_run _ _ _ rfl _ _ (by kernel_rfl) (by kernel_rfl) (hix W)⟩) HS ?_
            refine takeH 3 96 (.string x) rfl (by kernel_rfl) (by kernel_rfl) (by kernel_rfl) (by kernel_rfl) (fun _ _ _ h => h) (.inl ⟨by kernel_rfl, fun W hW => load_run 9 _ rfl ⟨g, 3, none⟩ (by kernel_rfl) (hld _ _ _ hW.1)⟩) HS ?_
            refine takeH 4 97 (.slice (some ⟨g2, 0, none⟩) ys.length cap2) rfl (by kernel_rfl) (by kernel_rfl) (by kernel_rfl) (by kernel_rfl) (fun _ _ _ h => h) (.inl ⟨by kernel_rfl, fun W _ => (by kernel_rfl)⟩) HS ?_
            refine takeH 5 98 (.int .i64 3) rfl (by kernel_rfl) (by kernel_rfl) (by kernel_rfl) (by kernel_rfl) (fun _ _ _ h => h) (.inl ⟨by kernel_rfl, fun W _ => (by kernel_rfl)⟩) HS ?_
            refine takeH 6 99 (.pointer (some ⟨g2, 3, none⟩)) rfl (by kernel_rfl) (by kernel_rfl) (by kernel_rfl) (by kernel_rfl) (fun _ _ _ h => h) (.inl ⟨by kernel_rfl, fun W _ => addr_run _ _ _ rfl _ _ (by kernel_rfl) (by kernel_rfl) (hiy2 W)⟩) HS ?_
            refine takeH 7 100 (.string y) rfl (by kernel_rfl) (by kernel_rfl) (by kernel_rfl) (by kernel_rfl) (fun _ _ _ h => h) (.inl ⟨by kernel_rfl, fun W hW => load_run 9 _ rfl ⟨g2, 3, none⟩ (by kernel_rfl) (hld _ _ _ hW.2)⟩) HS ?_
            refine takeH 8 101 (.bool false) rfl (by kernel_rfl) (by kernel_rfl) (by kernel_rfl) (by kernel_rfl) (fun _ _ _ h => h) (.inl ⟨by kernel_rfl, fun W _ => bin_run _ _ _ _ _ rfl _ _ (by kernel_rfl) (by kernel_rfl) (by kernel_rfl) (hn8 W)⟩) HS ?_
            refine takeH 9 102 (.bool false) rfl (by kernel_rfl) (by kernel_rfl) (by kernel_rfl) (by kernel_rfl) (fun _ _ _ h => h) (.inl ⟨by kernel_rfl, fun W _ => (by kernel_rfl)⟩) HS ?_
            refine takeH 10 103 undef rfl (by kernel_rfl) (by kernel_rfl) (by kernel_rfl) (by kernel_rfl) (fun _ _ _ h => h) (.inr ⟨by kernel_rfl, rfl⟩) HS ?_
            refine takeH 11 104 undef rfl (by kernel_rfl) (by kernel_rfl) (by kernel_rfl) (by kernel_rfl) (fun _ _ _ h => h) (.inr ⟨by kernel_rfl, rfl⟩) HS ?_
            refine takeH 12 105 undef rfl (by kernel_rfl) (by kernel_rfl) (by kernel_rfl) (by kernel_rfl) (fun _ _ _ h => h) (.inr ⟨by kernel_rfl, rfl⟩) HS ?_
            refine takeH 13 106 undef rfl (by kernel_rfl) (by kernel_rfl) (by kernel_rfl) (by kernel_rfl) (fun _ _ _ h => h) (.inr ⟨by kernel_rfl, rfl⟩) HS ?_
            refine takeH 14 107 undef rfl (by kernel_rfl) (by kernel_rfl) (by kernel_rfl) (by kernel_rfl) (fun _ _ _ h => h) (.inr ⟨by kernel_rfl, rfl⟩) HS ?_
            refine takeH 15 108 undef rfl (by kernel_rfl) (by kernel_rfl) (by kernel_rfl) (by kernel_rfl) (fun _ _ _ h => h) (.inr ⟨by kernel_rfl, rfl⟩) HS ?_
            refine takeH 16 109 undef rfl (by kernel_rfl) (by kernel_rfl) (by kernel_rfl) (by kernel_rfl) (fun _ _ _ h => h) (.inr ⟨by kernel_rfl, rfl⟩) HS ?_
            refine takeH 17 110 undef rfl (by kernel_rfl) (by kernel_rfl) (by kernel_rfl) (by kernel_rfl) (fun _ _ _ h => h) (.inr ⟨by kernel_rfl, rfl⟩) HS ?_
            refine takeH 18 111 undef rfl (by kernel_rfl) (by kernel_rfl) (by kernel_rfl) (by kernel_rfl) (fun _ _ _ h => h) (.inr ⟨by kernel_rfl, rfl⟩) HS ?_
            refine takeH 19 112 undef rfl (by kernel_rfl) (by kernel_rfl) (by kernel_rfl) (by kernel_rfl) (fun _ _ _ h => h) (.inr ⟨by kernel_rfl, rfl⟩) HS ?_
            refine takeH 20 113 (.bool false) rfl (by kernel_rfl) (by kernel_rfl) (by kernel_rfl) (by kernel_rfl) (fun _ _ _ h => h) (.inl ⟨by kernel_rfl, fun W _ => (by kernel_rfl)⟩) HS ?_
            refine takeH 21 114 (.bool false) rfl (by kernel_rfl) (by kernel_rfl) (by kernel_rfl) (by kernel_rfl) (fun _ _ _ h => h) (.inl ⟨by kernel_rfl, fun W _ => (by kernel_rfl)⟩) HS ?_
            refine takeH 22 115 undef rfl (by kernel_rfl) (by kernel_rfl) (by kernel_rfl) (by kernel_rfl) (fun _ _ _ h => h) (.inr ⟨by kernel_rfl, rfl⟩) HS ?_
            refine takeH 23 116 undef rfl (by kernel_rfl) (by kernel_rfl) (by kernel_rfl) (by kernel_rfl) (fun _ _ _ h => h) (.inr ⟨by kernel_rfl, rfl⟩) HS ?_
            refine takeH 24 117 (.bool false) rfl (by kernel_rfl) (by kernel_rfl) (by kernel_rfl) (by kernel_rfl) (fun _ _ _ h => h) (.inl ⟨by kernel_rfl, fun W _ => (by kernel_rfl)⟩) HS ?_
            refine wpAnyH_done (by kernel_rfl) ?_ _
            clear HS hix hiy2 hn8
            simp only [List.setIfInBounds_toArray, List.set_cons_zero, List.set_cons_succ]
            have HD := Lib.hid (HI.out.same (w' := wr.drew) rfl HI.out.below.drew)
            clear HI hcx hcy hc0 HTX hld
            generalize wr.drew = wz at HD ⊢
            go_wp2_with fail
            go_roundw
            case rel => exact ⟨3 + 1, by omega, by go_num, HD.out⟩
            case measure => simp [intOf]; omega
          · cases hq1 : (y.toList == [49])
            · go_wp2_with (go_at_call 23; refine (HTX.out _).mono ?_; rintro e wr ⟨rfl, rfl⟩)
              refine wp_region_held (S := fun w' => w'.cell? ⟨g, 3, none⟩ = some (.string x) ∧ w'.cell? ⟨g2, 3, none⟩ = some (.string y)) (by kernel_rfl) ?_
              change wpAnyH _ _ _ _ _ _ _ _ wr.drew
              have HS : (fun w' : World => w'.cell? ⟨g, 3, none⟩ = some (.string x) ∧ w'.cell? ⟨g2, 3, none⟩ = some (.string y)) wr.drew := ⟨hcx, hcy⟩
              have hix : ∀ W, (Instr.indexAt 39 (.slice (some ⟨g, 0, none⟩) ys.length cap) (.int .i64 3)).run Tryd.prog W = .ok (.pointer (some ⟨g, 3, none⟩)) W := idx_run _ _ _ 3 (by omega)
              have hiy2 : ∀ W, (Instr.indexAt 39 (.slice (some ⟨g2, 0, none⟩) ys.length cap2) (.int .i64 3)).run Tryd.prog W = .ok (.pointer (some ⟨g2, 3, none⟩)) W := idx_run _ _ _ 3 (by omega)
              have hn8 : ∀ W, (binOp .neq 9 (.string x) (.string y)).run Tryd.prog W = .ok (.bool false) W := neq_run _ _ hxn
              refine takeH 0 93 (.slice (some ⟨g, 0, none⟩) ys.length cap) rfl (by kernel_rfl) (by kernel_rfl) (by kernel_rfl) (by kernel_rfl) (fun _ _ _ h => h) (.inl ⟨by kernel_rfl, fun W _ => (by kernel_rfl)⟩) HS ?_
              refine takeH 1 94 (.int .i64 3) rfl (by kernel_rfl) (by kernel_rfl) (by kernel_rfl) (by kernel_rfl) (fun _ _ _ h => h) (.inl ⟨by kernel_rfl, fun W _ => (by kernel_rfl)⟩) HS ?_
              refine takeH 2 95 (.pointer (some ⟨g, 3, none⟩)) rfl (by kernel_rfl) (by kernel_rfl) (by kernel_rfl) (by kernel_rfl) (fun _ _ _ h => h) (.inl ⟨by kernel_rfl, fun W _ => addr_run _ _ _ rfl _ _ (by kernel_rfl) (by kernel_rfl) (hix W)⟩) HS ?_
              refine takeH 3 96 (.string x) rfl (by kernel_rfl) (by kernel_rfl) (by kernel_rfl) (by kernel_rfl) (fun _ _ _ h => h) (.inl ⟨by kernel_rfl, fun W hW => load_run 9 _ rfl ⟨g, 3, none⟩ (by kernel_rfl) (hld _ _ _ hW.1)⟩) HS ?_
              refine takeH 4 97 (.slice (some ⟨g2, 0, none⟩) ys.length cap2) rfl (by kernel_rfl) (by kernel_rfl) (by kernel_rfl) (by kernel_rfl) (fun _ _ _ h => h) (.inl ⟨by kernel_rfl, fun W _ => (by kernel_rfl)⟩) HS ?_
              refine takeH 5 98 (.int .i64 3) rfl (by kernel_rfl) (by kernel_rfl) (by kernel_rfl) (by kernel_rfl) (fun _ _ _ h => h) (.inl ⟨by kernel_rfl, fun W _ => (by kernel_rfl)⟩) HS ?_
              refine takeH 6 99 (.pointer (some ⟨g2, 3, none⟩)) rfl (by kernel_rfl) (by kernel_rfl) (by kernel_rfl) (by kernel_rfl) (fun _ _ _ h => h) (.inl ⟨by kernel_rfl, fun W _ => addr_run _ _ _ rfl _ _ (by kernel_rfl) (by kernel_rfl) (hiy2 W)⟩) HS ?_
              refine takeH 7 100 (.string y) rfl (by kernel_rfl) (by kernel_rfl) (by kernel_rfl) (by kernel_rfl) (fun _ _ _ h => h) (.inl ⟨by kernel_rfl, fun W hW => load_run 9 _ rfl ⟨g2, 3, none⟩ (by kernel_rfl) (hld _ _ _ hW.2)⟩) HS ?_
              refine takeH 8 101 (.bool false) rfl (by kernel_rfl) (by kernel_rfl) (by kernel_rfl) (by kernel_rfl) (fun _ _ _ h => h) (.inl ⟨by kernel_rfl, fun W _ => bin_run _ _ _ _ _ rfl _ _ (by kernel_rfl) (by kernel_rfl) (by kernel_rfl) (hn8 W)⟩) HS ?_
              refine takeH 9 102 (.bool false) rfl (by kernel_rfl) (by kernel_rfl) (by kernel_rfl) (by kernel_rfl) (fun _ _ _ h => h) (.inl ⟨by kernel_rfl, fun W _ => (by kernel_rfl)⟩) HS ?_
              refine takeH 10 103 undef rfl (by kernel_rfl) (by kernel_rfl) (by kernel_rfl) (by kernel_rfl) (fun _ _ _ h => h) (.inr ⟨by kernel_rfl, rfl⟩) HS ?_
              refine takeH 11 104 undef rfl (by kernel_rfl) (by kernel_rfl) (by kernel_rfl) (by kernel_rfl) (fun _ _ _ h => h) (.inr ⟨by kernel_rfl, rfl⟩) HS ?_
              refine takeH 12 105 undef rfl (by kernel_rfl) (by kernel_rfl) (by kernel_rfl) (by kernel_rfl) (fun _ _ _ h => h) (.inr ⟨by kernel_rfl, rfl⟩) HS ?_
              refine takeH 13 106 undef rfl (by kernel_rfl) (by kernel_rfl) (by kernel_rfl) (by kernel_rfl) (fun _ _ _ h => h) (.inr ⟨by kernel_rfl, rfl⟩) HS ?_
              refine takeH 14 107 undef rfl (by kernel_rfl) (by kernel_rfl) (by kernel_rfl) (by kernel_rfl) (fun _ _ _ h => h) (.inr ⟨by kernel_rfl, rfl⟩) HS ?_
              refine takeH 15 108 undef rfl (by kernel_rfl) (by kernel_rfl) (by kernel_rfl) (by kernel_rfl) (fun _ _ _ h => h) (.inr ⟨by kernel_rfl, rfl⟩) HS ?_
              refine takeH 16 109 undef rfl (by kernel_rfl) (by kernel_rfl) (by kernel_rfl) (by kernel_rfl) (fun _ _ _ h => h) (.inr ⟨by kernel_rfl, rfl⟩) HS ?_
              refine takeH 17 110 undef rfl (by kernel_rfl) (by kernel_rfl) (by kernel_rfl) (by kernel_rfl) (fun _ _ _ h => h) (.inr ⟨by kernel_rfl, rfl⟩) HS ?_
              refine takeH 18 111 undef rfl (by kernel_rfl) (by kernel_rfl) (by kernel_rfl) (by kernel_rfl) (fun _ _ _ h => h) (.inr ⟨by kernel_rfl, rfl⟩) HS ?_
              refine takeH 19 112 undef rfl (by kernel_rfl) (by kernel_rfl) (by kernel_rfl) (by kernel_rfl) (fun _ _ _ h => h) (.inr ⟨by kernel_rfl, rfl⟩) HS ?_
              refine takeH 20 113 (.bool false) rfl (by kernel_rfl) (by kernel_rfl) (by kernel_rfl) (by kernel_rfl) (fun _ _ _ h => h) (.inl ⟨by kernel_rfl, fun W _ => (by kernel_rfl)⟩) HS ?_
              refine takeH 21 114 (.bool false) rfl (by kernel_rfl) (by kernel_rfl) (by kernel_rfl) (by kernel_rfl) (fun _ _ _ h => h) (.inl ⟨by kernel_rfl, fun W _ => (by kernel_rfl)⟩) HS ?_
              refine takeH 22 115 undef rfl (by kernel_rfl) (by kernel_rfl) (by kernel_rfl) (by kernel_rfl) (fun _ _ _ h => h) (.inr ⟨by kernel_rfl, rfl⟩) HS ?_
              refine takeH 23 116 undef rfl (by kernel_rfl) (by kernel_rfl) (by kernel_rfl) (by kernel_rfl) (fun _ _ _ h => h) (.inr ⟨by kernel_rfl, rfl⟩) HS ?_
              refine takeH 24 117 (.bool false) rfl (by kernel_rfl) (by kernel_rfl) (by kernel_rfl) (by kernel_rfl) (fun _ _ _ h => h) (.inl ⟨by kernel_rfl, fun W _ => (by kernel_rfl)⟩) HS ?_
              refine wpAnyH_done (by kernel_rfl) ?_ _
              clear HS hix hiy2 hn8
              simp only [List.setIfInBounds_toArray, List.set_cons_zero, List.set_cons_succ]
              have HD := Lib.hid (HI.out.same (w' := wr.drew) rfl HI.out.below.drew)
              clear HI hcx hcy hc0 HTX hld
              generalize wr.drew = wz at HD ⊢
              go_wp2_with fail
              go_roundw
              case rel => exact ⟨3 + 1, by omega, by go_num, HD.out⟩
              case measure => simp [intOf]; omega
            · go_wp2_with (go_at_call 23; refine (HTX.out _).mono ?_; rintro e wr ⟨rfl, rfl⟩)
              refine wp_region_held (S := fun w' => w'.cell? ⟨g, 3, none⟩ = some (.string x) ∧ w'.cell? ⟨g2, 3, none⟩ = some (.string y)) (by kernel_rfl) ?_
              change wpAnyH _ _ _ _ _ _ _ _ wr.drew
              have HS : (fun w' : World => w'.cell? ⟨g, 3, none⟩ = some (.string x) ∧ w'.cell? ⟨g2, 3, none⟩ = some (.string y)) wr.drew := ⟨hcx, hcy⟩
              have hix : ∀ W, (Instr.indexAt 39 (.slice (some ⟨g, 0, none⟩) ys.length cap) (.int .i64 3)).run Tryd.prog W = .ok (.pointer (some ⟨g, 3, none⟩)) W := idx_run _ _ _ 3 (by omega)
              have hiy2 : ∀ W, (Instr.indexAt 39 (.slice (some ⟨g2, 0, none⟩) ys.length cap2) (.int .i64 3)).run Tryd.prog W = .ok (.pointer (some ⟨g2, 3, none⟩)) W := idx_run _ _ _ 3 (by omega)
              have hn8 : ∀ W, (binOp .neq 9 (.string x) (.string y)).run Tryd.prog W = .ok (.bool false) W := neq_run _ _ hxn
              refine takeH 0 93 (.slice (some ⟨g, 0, none⟩) ys.length cap) rfl (by kernel_rfl) (by kernel_rfl) (by kernel_rfl) (by kernel_rfl) (fun _ _ _ h => h) (.inl ⟨by kernel_rfl, fun W _ => (by kernel_rfl)⟩) HS ?_
              refine takeH 1 94 (.int .i64 3) rfl (by kernel_rfl) (by kernel_rfl) (by kernel_rfl) (by kernel_rfl) (fun _ _ _ h => h) (.inl ⟨by kernel_rfl, fun W _ => (by kernel_rfl)⟩) HS ?_
              refine takeH 2 95 (.pointer (some ⟨g, 3, none⟩)) rfl (by kernel_rfl) (by kernel_rfl) (by kernel_rfl) (by kernel_rfl) (fun _ _ _ h => h) (.inl ⟨by kernel_rfl, fun W _ => addr_run _ _ _ rfl _ _ (by kernel_rfl) (by kernel_rfl) (hix W)⟩) HS ?_
              refine takeH 3 96 (.string x) rfl (by kernel_rfl) (by kernel_rfl) (by kernel_rfl) (by kernel_rfl) (fun _ _ _ h => h) (.inl ⟨by kernel_rfl, fun W hW => load_run 9 _ rfl ⟨g, 3, none⟩ (by kernel_rfl) (hld _ _ _ hW.1)⟩) HS ?_
              refine takeH 4 97 (.slice (some ⟨g2, 0, none⟩) ys.length cap2) rfl (by kernel_rfl) (by kernel_rfl) (by kernel_rfl) (by kernel_rfl) (fun _ _ _ h => h) (.inl ⟨by kernel_rfl, fun W _ => (by kernel_rfl)⟩) HS ?_
              refine takeH 5 98 (.int .i64 3) rfl (by kernel_rfl) (by kernel_rfl) (by kernel_rfl) (by kernel_rfl) (fun _ _ _ h => h) (.inl ⟨by kernel_rfl, fun W _ => (by kernel_rfl)⟩) HS ?_
              refine takeH 6 99 (.pointer (some ⟨g2, 3, none⟩)) rfl (by kernel_rfl) (by kernel_rfl) (by kernel_rfl) (by kernel_rfl) (fun _ _ _ h => h) (.inl ⟨by kernel_rfl, fun W _ => addr_run _ _ _ rfl _ _ (by kernel_rfl) (by kernel_rfl) (hiy2 W)⟩) HS ?_
              refine takeH 7 100 (.string y) rfl (by kernel_rfl) (by kernel_rfl) (by kernel_rfl) (by kernel_rfl) (fun _ _ _ h => h) (.inl ⟨by kernel_rfl, fun W hW => load_run 9 _ rfl ⟨g2, 3, none⟩ (by kernel_rfl) (hld _ _ _ hW.2)⟩) HS ?_
              refine takeH 8 101 (.bool false) rfl (by kernel_rfl) (by kernel_rfl) (by kernel_rfl) (by kernel_rfl) (fun _ _ _ h => h) (.inl ⟨by kernel_rfl, fun W _ => bin_run _ _ _ _ _ rfl _ _ (by kernel_rfl) (by kernel_rfl) (by kernel_rfl) (hn8 W)⟩) HS ?_
              refine takeH 9 102 (.bool false) rfl (by kernel_rfl) (by kernel_rfl) (by kernel_rfl) (by kernel_rfl) (fun _ _ _ h => h) (.inl ⟨by kernel_rfl, fun W _ => (by kernel_rfl)⟩) HS ?_
              refine takeH 10 103 undef rfl (by kernel_rfl) (by kernel_rfl) (by kernel_rfl) (by kernel_rfl) (fun _ _ _ h => h) (.inr ⟨by kernel_rfl, rfl⟩) HS ?_
              refine takeH 11 104 undef rfl (by kernel_rfl) (by kernel_rfl) (by kernel_rfl) (by kernel_rfl) (fun _ _ _ h => h) (.inr ⟨by kernel_rfl, rfl⟩) HS ?_
              refine takeH 12 105 undef rfl (by kernel_rfl) (by kernel_rfl) (by kernel_rfl) (by kernel_rfl) (fun _ _ _ h => h) (.inr ⟨by kernel_rfl, rfl⟩) HS ?_
              refine takeH 13 106 undef rfl (by kernel_rfl) (by kernel_rfl) (by kernel_rfl) (by kernel_rfl) (fun _ _ _ h => h) (.inr ⟨by kernel_rfl, rfl⟩) HS ?_
              refine takeH 14 107 undef rfl (by kernel_rfl) (by kernel_rfl) (by kernel_rfl) (by kernel_rfl) (fun _ _ _ h => h) (.inr ⟨by kernel_rfl, rfl⟩) HS ?_
              refine takeH 15 108 undef rfl (by kernel_rfl) (by kernel_rfl) (by kernel_rfl) (by kernel_rfl) (fun _ _ _ h => h) (.inr ⟨by kernel_rfl, rfl⟩) HS ?_
              refine takeH 16 109 undef rfl (by kernel_rfl) (by kernel_rfl) (by kernel_rfl) (by kernel_rfl) (fun _ _ _ h => h) (.inr ⟨by kernel_rfl, rfl⟩) HS ?_
              refine takeH 17 110 undef rfl (by kernel_rfl) (by kernel_rfl) (by kernel_rfl) (by kernel_rfl) (fun _ _ _ h => h) (.inr ⟨by kernel_rfl, rfl⟩) HS ?_
              refine takeH 18 111 undef rfl (by kernel_rfl) (by kernel_rfl) (by kernel_rfl) (by kernel_rfl) (fun _ _ _ h => h) (.inr ⟨by kernel_rfl, rfl⟩) HS ?_
              refine takeH 19 112 undef rfl (by kernel_rfl) (by kernel_rfl) (by kernel_rfl) (by kernel_rfl) (fun _ _ _ h => h) (.inr ⟨by kernel_rfl, rfl⟩) HS ?_
              refine takeH 20 113 (.bool false) rfl (by kernel_rfl) (by kernel_rfl) (by kernel_rfl) (by kernel_rfl) (fun _ _ _ h => h) (.inl ⟨by kernel_rfl, fun W _ => (by kernel_rfl)⟩) HS ?_
              refine takeH 21 114 (.bool false) rfl (by kernel_rfl) (by kernel_rfl) (by kernel_rfl) (by kernel_rfl) (fun _ _ _ h => h) (.inl ⟨by kernel_rfl, fun W _ => (by kernel_rfl)⟩) HS ?_
              refine takeH 22 115 undef rfl (by kernel_rfl) (by kernel_rfl) (by kernel_rfl) (by kernel_rfl) (fun _ _ _ h => h) (.inr ⟨by kernel_rfl, rfl⟩) HS ?_
              refine takeH 23 116 undef rfl (by kernel_rfl) (by kernel_rfl) (by kernel_rfl) (by kernel_rfl) (fun _ _ _ h => h) (.inr ⟨by kernel_rfl, rfl⟩) HS ?_
              refine takeH 24 117 (.bool false) rfl (by kernel_rfl) (by kernel_rfl) (by kernel_rfl) (by kernel_rfl) (fun _ _ _ h => h) (.inl ⟨by kernel_rfl, fun W _ => (by kernel_rfl)⟩) HS ?_
              refine wpAnyH_done (by kernel_rfl) ?_ _
              clear HS hix hiy2 hn8
              simp only [List.setIfInBounds_toArray, List.set_cons_zero, List.set_cons_succ]
              have HD := Lib.hid (HI.out.same (w' := wr.drew) rfl HI.out.below.drew)
              clear HI hcx hcy hc0 HTX hld
              generalize wr.drew = wz at HD ⊢
              go_wp2_with fail
              go_roundw
              case rel => exact ⟨3 + 1, by omega, by go_num, HD.out⟩
              case measure => simp [intOf]; omega
        · cases hq0 : (tx.toList == [48])
          · go_wp2_with (go_at_call 23; refine (HTX.out _).mono ?_; rintro e wr ⟨rfl, rfl⟩)
            refine wp_region_held (S := fun w' => w'.cell? ⟨g, 3, none⟩ = some (.string x) ∧ w'.cell? ⟨g2, 3, none⟩ = some (.string y)) (by kernel_rfl) ?_
            change wpAnyH _ _ _ _ _ _ _ _ wr.drew
            have HS : (fun w' : World => w'.cell? ⟨g, 3, none⟩ = some (.string x) ∧ w'.cell? ⟨g2, 3, none⟩ = some (.string y)) wr.drew := ⟨hcx, hcy⟩
            have hix : ∀ W, (Instr.indexAt 39 (.slice (some ⟨g, 0, none⟩) ys.length cap) (.int .i64 3)).run Tryd.prog W = .ok (.pointer (some ⟨g, 3, none⟩)) W := idx_run _ _ _ 3 (by omega)
            have hiy2 : ∀ W, (Instr.indexAt 39 (.slice (some ⟨g2, 0, none⟩) ys.length cap2) (.int .i64 3)).run Tryd.prog W = .ok (.pointer (some ⟨g2, 3, none⟩)) W := idx_run _ _ _ 3 (by omega)
            have hn8 : ∀ W, (binOp .neq 9 (.string x) (.string y)).run Tryd.prog W = .ok (.bool true) W := neq_run _ _ hxn
            refine takeH 0 93 (.slice (some ⟨g, 0, none⟩) ys.length cap) rfl (by kernel_rfl) (by kernel_rfl) (by kernel_rfl) (by kernel_rfl) (fun _ _ _ h => h) (.inl ⟨by kernel_rfl, fun W _ => (by kernel_rfl)⟩) HS ?_
            refine takeH 1 94 (.int .i64 3) rfl (by kernel_rfl) (by kernel_rfl) (by kernel_rfl) (by kernel_rfl) (fun _ _ _ h => h) (.inl ⟨by kernel_rfl, fun W _ => (by kernel_rfl)⟩) HS ?_
            refine takeH 2 95 (.pointer (some ⟨g, 3, none⟩)) rfl (by kernel_rfl) (by kernel_rfl) (by kernel_rfl) (by kernel_rfl) (fun _ _ _ h => h) (.inl ⟨by kernel_rfl, fun W _ => addr_run _ _ _ rfl _ _ (by kernel_rfl) (by kernel_rfl) (hix W)⟩) HS ?_
            refine takeH 3 96 (.string x) rfl (by kernel_rfl) (by kernel_rfl) (by kernel_rfl) (by kernel_rfl) (fun _ _ _ h => h) (.inl ⟨by kernel_rfl, fun W hW => load_run 9 _ rfl ⟨g, 3, none⟩ (by kernel_rfl) (hld _ _ _ hW.1)⟩) HS ?_
            refine takeH 4 97 (.slice (some ⟨g2, 0, none⟩) ys.length cap2) rfl (by kernel_rfl) (by kernel_rfl) (by kernel_rfl) (by kernel_rfl) (fun _ _ _ h => h) (.inl ⟨by kernel_rfl, fun W _ => (by kernel_rfl)⟩) HS ?_
            refine takeH 5 98 (.int .i64 3) rfl (by kernel_rfl) (by kernel_rfl) (by kernel_rfl) (by kernel_rfl) (fun _ _ _ h => h) (.inl ⟨by kernel_rfl, fun W _ => (by kernel_rfl)⟩) HS ?_
            refine takeH 6 99 (.pointer (some ⟨g2, 3, none⟩)) rfl (by kernel_rfl) (by kernel_rfl) (by kernel_rfl) (by kernel_rfl) (fun _ _ _ h => h) (.inl ⟨by kernel_rfl, fun W _ => addr_run _ _ _ rfl _ _ (by kernel_rfl) (by kernel_rfl) (hiy2 W)⟩) HS ?_
            refine takeH 7 100 (.string y) rfl (by kernel_rfl) (by kernel_rfl) (by kernel_rfl) (by kernel_rfl) (fun _ _ _ h => h) (.inl ⟨by kernel_rfl, fun W hW => load_run 9 _ rfl ⟨g2, 3, none⟩ (by kernel_rfl) (hld _ _ _ hW.2)⟩) HS ?_
            refine takeH 8 101 (.bool true) rfl (by kernel_rfl) (by kernel_rfl) (by kernel_rfl) (by kernel_rfl) (fun _ _ _ h => h) (.inl ⟨by kernel_rfl, fun W _ => bin_run _ _ _ _ _ rfl _ _ (by kernel_rfl) (by kernel_rfl) (by kernel_rfl) (hn8 W)⟩) HS ?_
            refine takeH 9 102 (.bool true) rfl (by kernel_rfl) (by kernel_rfl) (by kernel_rfl) (by kernel_rfl) (fun _ _ _ h => h) (.inl ⟨by kernel_rfl, fun W _ => (by kernel_rfl)⟩) HS ?_
            refine takeH 10 103 (.slice (some ⟨g, 0, none⟩) ys.length cap) rfl (by kernel_rfl) (by kernel_rfl) (by kernel_rfl) (by kernel_rfl) (fun _ _ _ h => h) (.inl ⟨by kernel_rfl, fun W _ => (by kernel_rfl)⟩) HS ?_
            refine takeH 11 104 (.int .i64 3) rfl (by kernel_rfl) (by kernel_rfl) (by kernel_rfl) (by kernel_rfl) (fun _ _ _ h => h) (.inl ⟨by kernel_rfl, fun W _ => (by kernel_rfl)⟩) HS ?_
            refine takeH 12 105 (.pointer (some ⟨g, 3, none⟩)) rfl (by kernel_rfl) (by kernel_rfl) (by kernel_rfl) (by kernel_rfl) (fun _ _ _ h => h) (.inl ⟨by kernel_rfl, fun W _ => addr_run _ _ _ rfl _ _ (by kernel_rfl) (by kernel_rfl) (hix W)⟩) HS ?_
            refine takeH 13 106 (.string x) rfl (by kernel_rfl) (by kernel_rfl) (by kernel_rfl) (by kernel_rfl) (fun _ _ _ h => h) (.inl ⟨by kernel_rfl, fun W hW => load_run 9 _ rfl ⟨g, 3, none⟩ (by kernel_rfl) (hld _ _ _ hW.1)⟩) HS ?_
            refine takeH 15 108 (.slice (some ⟨g2, 0, none⟩) ys.length cap2) rfl (by kernel_rfl) (by kernel_rfl) (by kernel_rfl) (by kernel_rfl) (fun _ _ _ h => h) (.inl ⟨by kernel_rfl, fun W _ => (by kernel_rfl)⟩) HS ?_
            refine takeH 16 109 (.int .i64 3) rfl (by kernel_rfl) (by kernel_rfl) (by kernel_rfl) (by kernel_rfl) (fun _ _ _ h => h) (.inl ⟨by kernel_rfl, fun W _ => (by kernel_rfl)⟩) HS ?_
            refine takeH 17 110 (.pointer (some ⟨g2, 3, none⟩)) rfl (by kernel_rfl) (by kernel_rfl) (by kernel_rfl) (by kernel_rfl) (fun _ _ _ h => h) (.inl ⟨by kernel_rfl, fun W _ => addr_run _ _ _ rfl _ _ (by kernel_rfl) (by kernel_rfl) (hiy2 W)⟩) HS ?_
            refine takeH 18 111 (.string y) rfl (by kernel_rfl) (by kernel_rfl) (by kernel_rfl) (by kernel_rfl) (fun _ _ _ h => h) (.inl ⟨by kernel_rfl, fun W hW => load_run 9 _ rfl ⟨g2, 3, none⟩ (by kernel_rfl) (hld _ _ _ hW.2)⟩) HS ?_
            refine anyH_one 14 (by kernel_rfl) rfl (by kernel_rfl) fun K hK => ?_
            go_simp
            refine (HTX.out _).mono ?_
            rintro e W ⟨rfl, hW⟩
            cases hW
            refine hK _ _ ⟨HS, ?_⟩
            clear hK K
            have hn19 : ∀ W, (binOp .neq 9 (.string tx) (.string y)).run Tryd.prog W = .ok (.bool false) W := neq_run _ _ htn
            refine takeH 19 112 (.bool false) rfl (by kernel_rfl) (by kernel_rfl) (by kernel_rfl) (by kernel_rfl) (fun _ _ _ h => h) (.inl ⟨by kernel_rfl, fun W _ => bin_run _ _ _ _ _ rfl _ _ (by kernel_rfl) (by kernel_rfl) (by kernel_rfl) (hn19 W)⟩) HS ?_
            refine takeH 20 113 (.bool false) rfl (by kernel_rfl) (by kernel_rfl) (by kernel_rfl) (by kernel_rfl) (fun _ _ _ h => h) (.inl ⟨by kernel_rfl, fun W _ => (by kernel_rfl)⟩) HS ?_
            refine takeH 21 114 (.bool false) rfl (by kernel_rfl) (by kernel_rfl) (by kernel_rfl) (by kernel_rfl) (fun _ _ _ h => h) (.inl ⟨by kernel_rfl, fun W _ => (by kernel_rfl)⟩) HS ?_
            refine takeH 22 115 undef rfl (by kernel_rfl) (by kernel_rfl) (by kernel_rfl) (by kernel_rfl) (fun _ _ _ h => h) (.inr ⟨by kernel_rfl, rfl⟩) HS ?_
            refine takeH 23 116 undef rfl (by kernel_rfl) (by kernel_rfl) (by kernel_rfl) (by kernel_rfl) (fun _ _ _ h => h) (.inr ⟨by kernel_rfl, rfl⟩) HS ?_
            refine takeH 24 117 (.bool false) rfl (by kernel_rfl) (by kernel_rfl) (by kernel_rfl) (by kernel_rfl) (fun _ _ _ h => h) (.inl ⟨by kernel_rfl, fun W _ => (by kernel_rfl)⟩) HS ?_
            refine wpAnyH_done (by kernel_rfl) ?_ _
            clear HS hix hiy2 hn8 hn19
            simp only [List.setIfInBounds_toArray, List.set_cons_zero, List.set_cons_succ]
            have HD := Lib.hid (HI.out.same (w' := wr.drew) rfl HI.out.below.drew)
            clear HI hcx hcy hc0 HTX hld
            generalize wr.drew = wz at HD ⊢
            go_wp2_with fail
            go_roundw
            case rel => exact ⟨3 + 1, by omega, by go_num, HD.out⟩
            case measure => simp [intOf]; omega
          · cases hq1 : (y.toList == [49])
            · go_wp2_with (go_at_call 23; refine (HTX.out _).mono ?_; rintro e wr ⟨rfl, rfl⟩)
              refine wp_region_held (S := fun w' => w'.cell? ⟨g, 3, none⟩ = some (.string x) ∧ w'.cell? ⟨g2, 3, none⟩ = some (.string y)) (by kernel_rfl) ?_
              change wpAnyH _ _ _ _ _ _ _ _ wr.drew
              have HS : (fun w' : World => w'.cell? ⟨g, 3, none⟩ = some (.string x) ∧ w'.cell? ⟨g2, 3, none⟩ = some (.string y)) wr.drew := ⟨hcx, hcy⟩
              have hix : ∀ W, (Instr.indexAt 39 (.slice (some ⟨g, 0, none⟩) ys.length cap) (.int .i64 3)).run Tryd.prog W = .ok (.pointer (some ⟨g, 3, none⟩)) W := idx_run _ _ _ 3 (by omega)
              have hiy2 : ∀ W, (Instr.indexAt 39 (.slice (some ⟨g2, 0, none⟩) ys.length cap2) (.int .i64 3)).run Tryd.prog W = .ok (.pointer (some ⟨g2, 3, none⟩)) W := idx_run _ _ _ 3 (by omega)
              have hn8 : ∀ W, (binOp .neq 9 (.string x) (.string y)).run Tryd.prog W = .ok (.bool true) W := neq_run _ _ hxn
              refine takeH 0 93 (.slice (some ⟨g, 0, none⟩) ys.length cap) rfl (by kernel_rfl) (by kernel_rfl) (by kernel_rfl) (by kernel_rfl) (fun _ _ _ h => h) (.inl ⟨by kernel_rfl, fun W _ => (by kernel_rfl)⟩) HS ?_
              refine takeH 1 94 (.int .i64 3) rfl (by kernel_rfl) (by kernel_rfl) (by kernel_rfl) (by kernel_rfl) (fun _ _ _ h => h) (.inl ⟨by kernel_rfl, fun W _ => (by kernel_rfl)⟩) HS ?_
              refine takeH 2 95 (.pointer (some ⟨g, 3, none⟩)) rfl (by kernel_rfl) (by kernel_rfl) (by kernel_rfl) (by kernel_rfl) (fun _ _ _ h => h) (.inl ⟨by kernel_rfl, fun W _ => addr_run _ _ _ rfl _ _ (by kernel_rfl) (by kernel_rfl) (hix W)⟩) HS ?_
              refine takeH 3 96 (.string x) rfl (by kernel_rfl) (by kernel_rfl) (by kernel_rfl) (by kernel_rfl) (fun _ _ _ h => h) (.inl ⟨by kernel_rfl, fun W hW => load_run 9 _ rfl ⟨g, 3, none⟩ (by kernel_rfl) (hld _ _ _ hW.1)⟩) HS ?_
              refine takeH 4 97 (.slice (some ⟨g2, 0, none⟩) ys.length cap2) rfl (by kernel_rfl) (by kernel_rfl) (by kernel_rfl) (by kernel_rfl) (fun _ _ _ h => h) (.inl ⟨by kernel_rfl, fun W _ => (by kernel_rfl)⟩) HS ?_
              refine takeH 5 98 (.int .i64 3) rfl (by kernel_rfl) (by kernel_rfl) (by kernel_rfl) (by kernel_rfl) (fun _ _ _ h => h) (.inl ⟨by kernel_rfl, fun W _ => (by kernel_rfl)⟩) HS ?_
              refine takeH 6 99 (.pointer (some ⟨g2, 3, none⟩)) rfl (by kernel_rfl) (by kernel_rfl) (by kernel_rfl) (by kernel_rfl) (fun _ _ _ h => h) (.inl ⟨by kernel_rfl, fun W _ => addr_run _ _ _ rfl _ _ (by kernel_rfl) (by kernel_rfl) (hiy2 W)⟩) HS ?_
              refine takeH 7 100 (.string y) rfl (by kernel_rfl) (by kernel_rfl) (by kernel_rfl) (by kernel_rfl) (fun _ _ _ h => h) (.inl ⟨by kernel_rfl, fun W hW => load_run 9 _ rfl ⟨g2, 3, none⟩ (by kernel_rfl) (hld _ _ _ hW.2)⟩) HS ?_
              refine takeH 8 101 (.bool true) rfl (by kernel_rfl) (by kernel_rfl) (by kernel_rfl) (by kernel_rfl) (fun _ _ _ h => h) (.inl ⟨by kernel_rfl, fun W _ => bin_run _ _ _ _ _ rfl _ _ (by kernel_rfl) (by kernel_rfl) (by kernel_rfl) (hn8 W)⟩) HS ?_
              refine takeH 9 102 (.bool true) rfl (by kernel_rfl) (by kernel_rfl) (by kernel_rfl) (by kernel_rfl) (fun _ _ _ h => h) (.inl ⟨by kernel_rfl, fun W _ => (by kernel_rfl)⟩) HS ?_
              refine takeH 10 103 (.slice (some ⟨g, 0, none⟩) ys.length cap) rfl (by kernel_rfl) (by kernel_rfl) (by kernel_rfl) (by kernel_rfl) (fun _ _ _ h => h) (.inl ⟨by kernel_rfl, fun W _ => (by kernel_rfl)⟩) HS ?_
              refine takeH 11 104 (.int .i64 3) rfl (by kernel_rfl) (by kernel_rfl) (by kernel_rfl) (by kernel_rfl) (fun _ _ _ h => h) (.inl ⟨by kernel_rfl, fun W _ => (by kernel_rfl)⟩) HS ?_
              refine takeH 12 105 (.pointer (some ⟨g, 3, none⟩)) rfl (by kernel_rfl) (by kernel_rfl) (by kernel_rfl) (by kernel_rfl) (fun _ _ _ h => h) (.inl ⟨by kernel_rfl, fun W _ => addr_run _ _ _ rfl _ _ (by kernel_rfl) (by kernel_rfl) (hix W)⟩) HS ?_
              refine takeH 13 106 (.string x) rfl (by kernel_rfl) (by kernel_rfl) (by kernel_rfl) (by kernel_rfl) (fun _ _ _ h => h) (.inl ⟨by kernel_rfl, fun W hW => load_run 9 _ rfl ⟨g, 3, none⟩ (by kernel_rfl) (hld _ _ _ hW.1)⟩) HS ?_
              refine takeH 15 108 (.slice (some ⟨g2, 0, none⟩) ys.length cap2) rfl (by kernel_rfl) (by kernel_rfl) (by kernel_rfl) (by kernel_rfl) (fun _ _ _ h => h) (.inl ⟨by kernel_rfl, fun W _ => (by kernel_rfl)⟩) HS ?_
              refine takeH 16 109 (.int .i64 3) rfl (by kernel_rfl) (by kernel_rfl) (by kernel_rfl) (by kernel_rfl) (fun _ _ _ h => h) (.inl ⟨by kernel_rfl, fun W _ => (by kernel_rfl)⟩) HS ?_
              refine takeH 17 110 (.pointer (some ⟨g2, 3, none⟩)) rfl (by kernel_rfl) (by kernel_rfl) (by kernel_rfl) (by kernel_rfl) (fun _ _ _ h => h) (.inl ⟨by kernel_rfl, fun W _ => addr_run _ _ _ rfl _ _ (by kernel_rfl) (by kernel_rfl) (hiy2 W)⟩) HS ?_
              refine takeH 18 111 (.string y) rfl (by kernel_rfl) (by kernel_rfl) (by kernel_rfl) (by kernel_rfl) (fun _ _ _ h => h) (.inl ⟨by kernel_rfl, fun W hW => load_run 9 _ rfl ⟨g2, 3, none⟩ (by kernel_rfl) (hld _ _ _ hW.2)⟩) HS ?_
              refine anyH_one 14 (by kernel_rfl) rfl (by kernel_rfl) fun K hK => ?_
              go_simp
              refine (HTX.out _).mono ?_
              rintro e W ⟨rfl, hW⟩
              cases hW
              refine hK _ _ ⟨HS, ?_⟩
              clear hK K
              have hn19 : ∀ W, (binOp .neq 9 (.string tx) (.string y)).run Tryd.prog W = .ok (.bool false) W := neq_run _ _ htn
              refine takeH 19 112 (.bool false) rfl (by kernel_rfl) (by kernel_rfl) (by kernel_rfl) (by kernel_rfl) (fun _ _ _ h => h) (.inl ⟨by kernel_rfl, fun W _ => bin_run _ _ _ _ _ rfl _ _ (by kernel_rfl) (by kernel_rfl) (by kernel_rfl) (hn19 W)⟩) HS ?_
              refine takeH 20 113 (.bool false) rfl (by kernel_rfl) (by kernel_rfl) (by kernel_rfl) (by kernel_rfl) (fun _ _ _ h => h) (.inl ⟨by kernel_rfl, fun W _ => (by kernel_rfl)⟩) HS ?_
              refine takeH 21 114 (.bool false) rfl (by kernel_rfl) (by kernel_rfl) (by kernel_rfl) (by kernel_rfl) (fun _ _ _ h => h) (.inl ⟨by kernel_rfl, fun W _ => (by kernel_rfl)⟩) HS ?_
              refine takeH 22 115 undef rfl (by kernel_rfl) (by kernel_rfl) (by kernel_rfl) (by kernel_rfl) (fun _ _ _ h => h) (.inr ⟨by kernel_rfl, rfl⟩) HS ?_
              refine takeH 23 116 undef rfl (by kernel_rfl) (by kernel_rfl) (by kernel_rfl) (by kernel_rfl) (fun _ _ _ h => h) (.inr ⟨by kernel_rfl, rfl⟩) HS ?_
              refine takeH 24 117 (.bool false) rfl (by kernel_rfl) (by kernel_rfl) (by kernel_rfl) (by kernel_rfl) (fun _ _ _ h => h) (.inl ⟨by kernel_rfl, fun W _ => (by kernel_rfl)⟩) HS ?_
              refine wpAnyH_done (by kernel_rfl) ?_ _
              clear HS hix hiy2 hn8 hn19
              simp only [List.setIfInBounds_toArray, List.set_cons_zero, List.set_cons_succ]
              have HD := Lib.hid (HI.out.same (w' := wr.drew) rfl HI.out.below.drew)
              clear HI hcx hcy hc0 HTX hld
              generalize wr.drew = wz at HD ⊢
              go_wp2_with fail
              go_roundw
              case rel => exact ⟨3 + 1, by omega, by go_num, HD.out⟩
              case measure => simp [intOf]; omega
            · go_wp2_with (go_at_call 23; refine (HTX.out _).mono ?_; rintro e wr ⟨rfl, rfl⟩)
              refine wp_region_held (S := fun w' => w'.cell? ⟨g, 3, none⟩ = some (.string x) ∧ w'.cell? ⟨g2, 3, none⟩ = some (.string y)) (by kernel_rfl) ?_
              change wpAnyH _ _ _ _ _ _ _ _ wr.drew
              have HS : (fun w' : World => w'.cell? ⟨g, 3, none⟩ = some (.string x) ∧ w'.cell? ⟨g2, 3, none⟩ = some (.string y)) wr.drew := ⟨hcx, hcy⟩
              have hix : ∀ W, (Instr.indexAt 39 (.slice (some ⟨g, 0, none⟩) ys.length cap) (.int .i64 3)).run Tryd.prog W = .ok (.pointer (some ⟨g, 3, none⟩)) W := idx_run _ _ _ 3 (by omega)
              have hiy2 : ∀ W, (Instr.indexAt 39 (.slice (some ⟨g2, 0, none⟩) ys.length cap2) (.int .i64 3)).run Tryd.prog W = .ok (.pointer (some ⟨g2, 3, none⟩)) W := idx_run _ _ _ 3 (by omega)
              have hn8 : ∀ W, (binOp .neq 9 (.string x) (.string y)).run Tryd.prog W = .ok (.bool true) W := neq_run _ _ hxn
              refine takeH 0 93 (.slice (some ⟨g, 0, none⟩) ys.length cap) rfl (by kernel_rfl) (by kernel_rfl) (by kernel_rfl) (by kernel_rfl) (fun _ _ _ h => h) (.inl ⟨by kernel_rfl, fun W _ => (by kernel_rfl)⟩) HS ?_
              refine takeH 1 94 (.int .i64 3) rfl (by kernel_rfl) (by kernel_rfl) (by kernel_rfl) (by kernel_rfl) (fun _ _ _ h => h) (.inl ⟨by kernel_rfl, fun W _ => (by kernel_rfl)⟩) HS ?_
              refine takeH 2 95 (.pointer (some ⟨g, 3, none⟩)) rfl (by kernel_rfl) (by kernel_rfl) (by kernel_rfl) (by kernel_rfl) (fun _ _ _ h => h) (.inl ⟨by kernel_rfl, fun W _ => addr_run _ _ _ rfl _ _ (by kernel_rfl) (by kernel_rfl) (hix W)⟩) HS ?_
              refine takeH 3 96 (.string x) rfl (by kernel_rfl) (by kernel_rfl) (by kernel_rfl) (by kernel_rfl) (fun _ _ _ h => h) (.inl ⟨by kernel_rfl, fun W hW => load_run 9 _ rfl ⟨g, 3, none⟩ (by kernel_rfl) (hld _ _ _ hW.1)⟩) HS ?_
              refine takeH 4 97 (.slice (some ⟨g2, 0, none⟩) ys.length cap2) rfl (by kernel_rfl) (by kernel_rfl) (by kernel_rfl) (by kernel_rfl) (fun _ _ _ h => h) (.inl ⟨by kernel_rfl, fun W _ => (by kernel_rfl)⟩) HS ?_
              refine takeH 5 98 (.int .i64 3) rfl (by kernel_rfl) (by kernel_rfl) (by kernel_rfl) (by kernel_rfl) (fun _ _ _ h => h) (.inl ⟨by kernel_rfl, fun W _ => (by kernel_rfl)⟩) HS ?_
              refine takeH 6 99 (.pointer (some ⟨g2, 3, none⟩)) rfl (by kernel_rfl) (by kernel_rfl) (by kernel_rfl) (by kernel_rfl) (fun _ _ _ h => h) (.inl ⟨by kernel_rfl, fun W _ => addr_run _ _ _ rfl _ _ (by kernel_rfl) (by kernel_rfl) (hiy2 W)⟩) HS ?_
              refine takeH 7 100 (.string y) rfl (by kernel_rfl) (by kernel_rfl) (by kernel_rfl) (by kernel_rfl) (fun _ _ _ h => h) (.inl ⟨by kernel_rfl, fun W hW => load_run 9 _ rfl ⟨g2, 3, none⟩ (by kernel_rfl) (hld _ _ _ hW.2)⟩) HS ?_
              refine takeH 8 101 (.bool true) rfl (by kernel_rfl) (by kernel_rfl) (by kernel_rfl) (by kernel_rfl) (fun _ _ _ h => h) (.inl ⟨by kernel_rfl, fun W _ => bin_run _ _ _ _ _ rfl _ _ (by kernel_rfl) (by kernel_rfl) (by kernel_rfl) (hn8 W)⟩) HS ?_
              refine takeH 9 102 (.bool true) rfl (by kernel_rfl) (by kernel_rfl) (by kernel_rfl) (by kernel_rfl) (fun _ _ _ h => h) (.inl ⟨by kernel_rfl, fun W _ => (by kernel_rfl)⟩) HS ?_
              refine takeH 10 103 (.slice (some ⟨g, 0, none⟩) ys.length cap) rfl (by kernel_rfl) (by kernel_rfl) (by kernel_rfl) (by kernel_rfl) (fun _ _ _ h => h) (.inl ⟨by kernel_rfl, fun W _ => (by kernel_rfl)⟩) HS ?_
              refine takeH 11 104 (.int .i64 3) rfl (by kernel_rfl) (by kernel_rfl) (by kernel_rfl) (by kernel_rfl) (fun _ _ _ h => h) (.inl ⟨by kernel_rfl, fun W _ => (by kernel_rfl)⟩) HS ?_
              refine takeH 12 105 (.pointer (some ⟨g, 3, none⟩)) rfl (by kernel_rfl) (by kernel_rfl) (by kernel_rfl) (by kernel_rfl) (fun _ _ _ h => h) (.inl ⟨by kernel_rfl, fun W _ => addr_run _ _ _ rfl _ _ (by kernel_rfl) (by kernel_rfl) (hix W)⟩) HS ?_
              refine takeH 13 106 (.string x) rfl (by kernel_rfl) (by kernel_rfl) (by kernel_rfl) (by kernel_rfl) (fun _ _ _ h => h) (.inl ⟨by kernel_rfl, fun W hW => load_run 9 _ rfl ⟨g, 3, none⟩ (by kernel_rfl) (hld _ _ _ hW.1)⟩) HS ?_
              refine takeH 15 108 (.slice (some ⟨g2, 0, none⟩) ys.length cap2) rfl (by kernel_rfl) (by kernel_rfl) (by kernel_rfl) (by kernel_rfl) (fun _ _ _ h => h) (.inl ⟨by kernel_rfl, fun W _ => (by kernel_rfl)⟩) HS ?_
              refine takeH 16 109 (.int .i64 3) rfl (by kernel_rfl) (by kernel_rfl) (by kernel_rfl) (by kernel_rfl) (fun _ _ _ h => h) (.inl ⟨by kernel_rfl, fun W _ => (by kernel_rfl)⟩) HS ?_
              refine takeH 17 110 (.pointer (some ⟨g2, 3, none⟩)) rfl (by kernel_rfl) (by kernel_rfl) (by kernel_rfl) (by kernel_rfl) (fun _ _ _ h => h) (.inl ⟨by kernel_rfl, fun W _ => addr_run _ _ _ rfl _ _ (by kernel_rfl) (by kernel_rfl) (hiy2 W)⟩) HS ?_
              refine takeH 18 111 (.string y) rfl (by kernel_rfl) (by kernel_rfl) (by kernel_rfl) (by kernel_rfl) (fun _ _ _ h => h) (.inl ⟨by kernel_rfl, fun W hW => load_run 9 _ rfl ⟨g2, 3, none⟩ (by kernel_rfl) (hld _ _ _ hW.2)⟩) HS ?_
              refine anyH_one 14 (by kernel_rfl) rfl (by kernel_rfl) fun K hK => ?_
              go_simp
              refine (HTX.out _).mono ?_
              rintro e W ⟨rfl, hW⟩
              cases hW
              refine hK _ _ ⟨HS, ?_⟩
              clear hK K
              have hn19 : ∀ W, (binOp .neq 9 (.string tx) (.string y)).run Tryd.prog W = .ok (.bool false) W := neq_run _ _ htn
              refine takeH 19 112 (.bool false) rfl (by kernel_rfl) (by kernel_rfl) (by kernel_rfl) (by kernel_rfl) (fun _ _ _ h => h) (.inl ⟨by kernel_rfl, fun W _ => bin_run _ _ _ _ _ rfl _ _ (by kernel_rfl) (by kernel_rfl) (by kernel_rfl) (hn19 W)⟩) HS ?_
              refine takeH 20 113 (.bool false) rfl (by kernel_rfl) (by kernel_rfl) (by kernel_rfl) (by kernel_rfl) (fun _ _ _ h => h) (.inl ⟨by kernel_rfl, fun W _ => (by kernel_rfl)⟩) HS ?_
              refine takeH 21 114 (.bool false) rfl (by kernel_rfl) (by kernel_rfl) (by kernel_rfl) (by kernel_rfl) (fun _ _ _ h => h) (.inl ⟨by kernel_rfl, fun W _ => (by kernel_rfl)⟩) HS ?_
              refine takeH 22 115 undef rfl (by kernel_rfl) (by kernel_rfl) (by kernel_rfl) (by kernel_rfl) (fun _ _ _ h => h) (.inr ⟨by kernel_rfl, rfl⟩) HS ?_
              refine takeH 23 116 undef rfl (by kernel_rfl) (by kernel_rfl) (by kernel_rfl) (by kernel_rfl) (fun _ _ _ h => h) (.inr ⟨by kernel_rfl, rfl⟩) HS ?_
              refine takeH 24 117 (.bool false) rfl (by kernel_rfl) (by kernel_rfl) (by kernel_rfl) (by kernel_rfl) (fun _ _ _ h => h) (.inl ⟨by kernel_rfl, fun W _ => (by kernel_rfl)⟩) HS ?_
              refine wpAnyH_done (by kernel_rfl) ?_ _
              clear HS hix hiy2 hn8 hn19
              simp only [List.setIfInBounds_toArray, List.set_cons_zero, List.set_cons_succ]
              have HD := Lib.hid (HI.out.same (w' := wr.drew) rfl HI.out.below.drew)
              clear HI hcx hcy hc0 HTX hld
              generalize wr.drew = wz at HD ⊢
              go_wp2_with fail
              go_roundw
              case rel => exact ⟨3 + 1, by omega, by go_num, HD.out⟩
              case measure => simp [intOf]; omega
        · go_wp2_with (go_at_call 23; refine (HTX.out _).mono ?_; rintro e wr ⟨rfl, rfl⟩)
          refine wp_region_held (S := fun w' => w'.cell? ⟨g, 3, none⟩ = some (.string x) ∧ w'.cell? ⟨g2, 3, none⟩ = some (.string y)) (by kernel_rfl) ?_
          change wpAnyH _ _ _ _ _ _ _ _ wr.drew
          have HS : (fun w' : World => w'.cell? ⟨g, 3, none⟩ = some (.string x) ∧ w'.cell? ⟨g2, 3, none⟩ = some (.string y)) wr.drew := ⟨hcx, hcy⟩
          have hix : ∀ W, (Instr.indexAt 39 (.slice (some ⟨g, 0, none⟩) ys.length cap) (.int .i64 3)).run Tryd.prog W = .ok (.pointer (some ⟨g, 3, none⟩)) W := idx_run _ _ _ 3 (by omega)
          have hiy2 : ∀ W, (Instr.indexAt 39 (.slice (some ⟨g2, 0, none⟩) ys.length cap2) (.int .i64 3)).run Tryd.prog W = .ok (.pointer (some ⟨g2, 3, none⟩)) W := idx_run _ _ _ 3 (by omega)
          have hn8 : ∀ W, (binOp .neq 9 (.string x) (.string y)).run Tryd.prog W = .ok (.bool true) W := neq_run _ _ hxn
          refine takeH 0 93 (.slice (some ⟨g, 0, none⟩) ys.length cap) rfl (by kernel_rfl) (by kernel_rfl) (by kernel_rfl) (by kernel_rfl) (fun _ _ _ h => h) (.inl ⟨by kernel_rfl, fun W _ => (by kernel_rfl)⟩) HS ?_
          refine takeH 1 94 (.int .i64 3) rfl (by kernel_rfl) (by kernel_rfl) (by kernel_rfl) (by kernel_rfl) (fun _ _ _ h => h) (.inl ⟨by kernel_rfl, fun W _ => (by kernel_rfl)⟩) HS ?_
          refine takeH 2 95 (.pointer (some ⟨g, 3, none⟩)) rfl (by kernel_rfl) (by kernel_rfl) (by kernel_rfl) (by kernel_rfl) (fun _ _ _ h => h) (.inl ⟨by kernel_rfl, fun W _ => addr_run _ _ _ rfl _ _ (by kernel_rfl) (by kernel_rfl) (hix W)⟩) HS ?_
          refine takeH 3 96 (.string x) rfl (by kernel_rfl) (by kernel_rfl) (by kernel_rfl) (by kernel_rfl) (fun _ _ _ h => h) (.inl ⟨by kernel_rfl, fun W hW => load_run 9 _ rfl ⟨g, 3, none⟩ (by kernel_rfl) (hld _ _ _ hW.1)⟩) HS ?_
          refine takeH 4 97 (.slice (some ⟨g2, 0, none⟩) ys.length cap2) rfl (by kernel_rfl) (by kernel_rfl) (by kernel_rfl) (by kernel_rfl) (fun _ _ _ h => h) (.inl ⟨by kernel_rfl, fun W _ => (by kernel_rfl)⟩) HS ?_
          refine takeH 5 98 (.int .i64 3) rfl (by kernel_rfl) (by kernel_rfl) (by kernel_rfl) (by kernel_rfl) (fun _ _ _ h => h) (.inl ⟨by kernel_rfl, fun W _ => (by kernel_rfl)⟩) HS ?_
          refine takeH 6 99 (.pointer (some ⟨g2, 3, none⟩)) rfl (by kernel_rfl) (by kernel_rfl) (by kernel_rfl) (by kernel_rfl) (fun _ _ _ h => h) (.inl ⟨by kernel_rfl, fun W _ => addr_run _ _ _ rfl _ _ (by kernel_rfl) (by kernel_rfl) (hiy2 W)⟩) HS ?_
          refine takeH 7 100 (.string y) rfl (by kernel_rfl) (by kernel_rfl) (by kernel_rfl) (by kernel_rfl) (fun _ _ _ h => h) (.inl ⟨by kernel_rfl, fun W hW => load_run 9 _ rfl ⟨g2, 3, none⟩ (by kernel_rfl) (hld _ _ _ hW.2)⟩) HS ?_
          refine takeH 8 101 (.bool true) rfl (by kernel_rfl) (by kernel_rfl) (by kernel_rfl) (by kernel_rfl) (fun _ _ _ h => h) (.inl ⟨by kernel_rfl, fun W _ => bin_run _ _ _ _ _ rfl _ _ (by kernel_rfl) (by kernel_rfl) (by kernel_rfl) (hn8 W)⟩) HS ?_
          refine takeH 9 102 (.bool true) rfl (by kernel_rfl) (by kernel_rfl) (by kernel_rfl) (by kernel_rfl) (fun _ _ _ h => h) (.inl ⟨by kernel_rfl, fun W _ => (by kernel_rfl)⟩) HS ?_
          refine takeH 10 103 (.slice (some ⟨g, 0, none⟩) ys.length cap) rfl (by kernel_rfl) (by kernel_rfl) (by kernel_rfl) (by kernel_rfl) (fun _ _ _ h => h) (.inl ⟨by kernel_rfl, fun W _ => (by kernel_rfl)⟩) HS ?_
          refine takeH 11 104 (.int .i64 3) rfl (by kernel_rfl) (by kernel_rfl) (by kernel_rfl) (by kernel_rfl) (fun _ _ _ h => h) (.inl ⟨by kernel_rfl, fun W _ => (by kernel_rfl)⟩) HS ?_
          refine takeH 12 105 (.pointer (some ⟨g, 3, none⟩)) rfl (by kernel_rfl) (by kernel_rfl) (by kernel_rfl) (by kernel_rfl) (fun _ _ _ h => h) (.inl ⟨by kernel_rfl, fun W _ => addr_run _ _ _ rfl _ _ (by kernel_rfl) (by kernel_rfl) (hix W)⟩) HS ?_
          refine takeH 13 106 (.string x) rfl (by kernel_rfl) (by kernel_rfl) (by kernel_rfl) (by kernel_rfl) (fun _ _ _ h => h) (.inl ⟨by kernel_rfl, fun W hW => load_run 9 _ rfl ⟨g, 3, none⟩ (by kernel_rfl) (hld _ _ _ hW.1)⟩) HS ?_
          refine takeH 15 108 (.slice (some ⟨g2, 0, none⟩) ys.length cap2) rfl (by kernel_rfl) (by kernel_rfl) (by kernel_rfl) (by kernel_rfl) (fun _ _ _ h => h) (.inl ⟨by kernel_rfl, fun W _ => (by kernel_rfl)⟩) HS ?_
          refine takeH 16 109 (.int .i64 3) rfl (by kernel_rfl) (by kernel_rfl) (by kernel_rfl) (by kernel_rfl) (fun _ _ _ h => h) (.inl ⟨by kernel_rfl, fun W _ => (by kernel_rfl)⟩) HS ?_
          refine takeH 17 110 (.pointer (some ⟨g2, 3, none⟩)) rfl (by kernel_rfl) (by kernel_rfl) (by kernel_rfl) (by kernel_rfl) (fun _ _ _ h => h) (.inl ⟨by kernel_rfl, fun W _ => addr_run _ _ _ rfl _ _ (by kernel_rfl) (by kernel_rfl) (hiy2 W)⟩) HS ?_
          refine takeH 18 111 (.string y) rfl (by kernel_rfl) (by kernel_rfl) (by kernel_rfl) (by kernel_rfl) (fun _ _ _ h => h) (.inl ⟨by kernel_rfl, fun W hW => load_run 9 _ rfl ⟨g2, 3, none⟩ (by kernel_rfl) (hld _ _ _ hW.2)⟩) HS ?_
          refine anyH_one 14 (by kernel_rfl) rfl (by kernel_rfl) fun K hK => ?_
          go_simp
          refine (HTX.out _).mono ?_
          rintro e W ⟨rfl, hW⟩
          cases hW
          refine hK _ _ ⟨HS, ?_⟩
          clear hK K
          have hn19 : ∀ W, (binOp .neq 9 (.string tx) (.string y)).run Tryd.prog W = .ok (.bool true) W := neq_run _ _ htn
          refine takeH 19 112 (.bool true) rfl (by kernel_rfl) (by kernel_rfl) (by kernel_rfl) (by kernel_rfl) (fun _ _ _ h => h) (.inl ⟨by kernel_rfl, fun W _ => bin_run _ _ _ _ _ rfl _ _ (by kernel_rfl) (by kernel_rfl) (by kernel_rfl) (hn19 W)⟩) HS ?_
          refine takeH 20 113 (.bool true) rfl (by kernel_rfl) (by kernel_rfl) (by kernel_rfl) (by kernel_rfl) (fun _ _ _ h => h) (.inl ⟨by kernel_rfl, fun W _ => (by kernel_rfl)⟩) HS ?_
          refine takeH 21 114 (.bool true) rfl (by kernel_rfl) (by kernel_rfl) (by kernel_rfl) (by kernel_rfl) (fun _ _ _ h => h) (.inl ⟨by kernel_rfl, fun W _ => (by kernel_rfl)⟩) HS ?_
          refine takeH 22 115 (.bool true) rfl (by kernel_rfl) (by kernel_rfl) (by kernel_rfl) (by kernel_rfl) (fun _ _ _ h => h) (.inl ⟨by kernel_rfl, fun W _ => (by kernel_rfl)⟩) HS ?_
          refine takeH 23 116 (.bool false) rfl (by kernel_rfl) (by kernel_rfl) (by kernel_rfl) (by kernel_rfl) (fun _ _ _ h => h) (.inl ⟨by kernel_rfl, fun W _ => (by kernel_rfl)⟩) HS ?_
          refine takeH 24 117 (.bool false) rfl (by kernel_rfl) (by kernel_rfl) (by kernel_rfl) (by kernel_rfl) (fun _ _ _ h => h) (.inl ⟨by kernel_rfl, fun W _ => (by kernel_rfl)⟩) HS ?_
          refine wpAnyH_done (by kernel_rfl) ?_ _
          clear HS hix hiy2 hn8 hn19
          simp only [List.setIfInBounds_toArray, List.set_cons_zero, List.set_cons_succ]
          have HD := Lib.hid (HI.out.same (w' := wr.drew) rfl HI.out.below.drew)
          clear HI hcx hcy hc0 HTX hld
          generalize wr.drew = wz at HD ⊢
          go_wp2_with fail
          go_roundw
          case rel => exact ⟨3 + 1, by omega, by go_num, HD.out⟩
          case measure => simp [intOf]; omega
      · have hzz : ((k : Int) == 1) = false ∨ (k = 1 ∧ ((i : Int) == 3) = false) := by
          by_cases h : k = 1
          · exact .inr ⟨h, by simp; omega⟩
          · exact .inl (by simp; omega)
        have hcs : (x.toList != y.toList) = false ∨ ((x.toList != y.toList) = true ∧ (tx.toList != y.toList) = false) := by
          rcases hcase with h | h | ⟨_, _, h1, h2, _⟩
          · exact .inl h
          · exact .inr h
          · exact absurd ⟨h1, h2⟩ hz
        clear hz hcase
        rcases hzz with hk1 | ⟨rfl, hi3⟩
        · rcases hcs with hxn | ⟨hxn, htn⟩
          · go_wp2_with (go_at_call 23; refine (HTX.out _).mono ?_; rintro e wr ⟨rfl, rfl⟩)
            refine wp_region_held (S := fun w' => w'.cell? ⟨g, i, none⟩ = some (.string x) ∧ w'.cell? ⟨g2, i, none⟩ = some (.string y)) (by kernel_rfl) ?_
            change wpAnyH _ _ _ _ _ _ _ _ wr.drew
            have HS : (fun w' : World => w'.cell? ⟨g, i, none⟩ = some (.string x) ∧ w'.cell? ⟨g2, i, none⟩ = some (.string y)) wr.drew := ⟨hcx, hcy⟩
            have hix : ∀ W, (Instr.indexAt 39 (.slice (some ⟨g, 0, none⟩) ys.length cap) (.int .i64 i)).run Tryd.prog W = .ok (.pointer (some ⟨g, i, none⟩)) W := idx_run _ _ _ i (by omega)
            have hiy2 : ∀ W, (Instr.indexAt 39 (.slice (some ⟨g2, 0, none⟩) ys.length cap2) (.int .i64 i)).run Tryd.prog W = .ok (.pointer (some ⟨g2, i, none⟩)) W := idx_run _ _ _ i (by omega)
            have hn8 : ∀ W, (binOp .neq 9 (.string x) (.string y)).run Tryd.prog W = .ok (.bool false) W := neq_run _ _ hxn
            refine takeH 0 93 (.slice (some ⟨g, 0, none⟩) ys.length cap) rfl (by kernel_rfl) (by kernel_rfl) (by kernel_rfl) (by kernel_rfl) (fun _ _ _ h => h) (.inl ⟨by kernel_rfl, fun W _ => (by kernel_rfl)⟩) HS ?_
            refine takeH 1 94 (.int .i64 i) rfl (by kernel_rfl) (by kernel_rfl) (by kernel_rfl) (by kernel_rfl) (fun _ _ _ h => h) (.inl ⟨by kernel_rfl, fun W _ => (by kernel_rfl)⟩) HS ?_
            refine takeH 2 95 (.pointer (some ⟨g, i, none⟩)) rfl (by kernel_rfl) (by kernel_rfl) (by kernel_rfl) (by kernel_rfl) (fun _ _ _ h => h) (.inl ⟨by kernel_rfl, fun W _ => addr_run _ _ _ rfl _ _ (by kernel_rfl) (by kernel_rfl) (hix W)⟩) HS ?_
            refine takeH 3 96 (.string x) rfl (by kernel_rfl) (by kernel_rfl) (by kernel_rfl) (by kernel_rfl) (fun _ _ _ h => h) (.inl ⟨by kernel_rfl, fun W hW => load_run 9 _ rfl ⟨g, i, none⟩ (by kernel_rfl) (hld _ _ _ hW.1)⟩) HS ?_
            refine takeH 4 97 (.slice (some ⟨g2, 0, none⟩) ys.length cap2) rfl (by kernel_rfl) (by kernel_rfl) (by kernel_rfl) (by kernel_rfl) (fun _ _ _ h => h) (.inl ⟨by kernel_rfl, fun W _ => (by kernel_rfl)⟩) HS ?_
            refine takeH 5 98 (.int .i64 i) rfl (by kernel_rfl) (by kernel_rfl) (by kernel_rfl) (by kernel_rfl) (fun _ _ _ h => h) (.inl ⟨by kernel_rfl, fun W _ => (by kernel_rfl)⟩) HS ?_
            refine takeH 6 99 (.pointer (some ⟨g2, i, none⟩)) rfl (by kernel_rfl) (by kernel_rfl) (by kernel_rfl) (by kernel_rfl) (fun _ _ _ h => h) (.inl ⟨by kernel_rfl, fun W _ => addr_run _ _ _ rfl _ _ (by kernel_rfl) (by kernel_rfl) (hiy2 W)⟩) HS ?_
            refine takeH 7 100 (.string y) rfl (by kernel_rfl) (by kernel_rfl) (by kernel_rfl) (by kernel_rfl) (fun _ _ _ h => h) (.inl ⟨by kernel_rfl, fun W hW => load_run 9 _ rfl ⟨g2, i, none⟩ (by kernel_rfl) (hld _ _ _ hW.2)⟩) HS ?_
            refine takeH 8 101 (.bool false) rfl (by kernel_rfl) (by kernel_rfl) (by kernel_rfl) (by kernel_rfl) (fun _ _ _ h => h) (.inl ⟨by kernel_rfl, fun W _ => bin_run _ _ _ _ _ rfl _ _ (by kernel_rfl) (by kernel_rfl) (by kernel_rfl) (hn8 W)⟩) HS ?_
            refine takeH 9 102 (.bool false) rfl (by kernel_rfl) (by kernel_rfl) (by kernel_rfl) (by kernel_rfl) (fun _ _ _ h => h) (.inl ⟨by kernel_rfl, fun W _ => (by kernel_rfl)⟩) HS ?_
            refine takeH 10 103 undef rfl (by kernel_rfl) (by kernel_rfl) (by kernel_rfl) (by kernel_rfl) (fun _ _ _ h => h) (.inr ⟨by kernel_rfl, rfl⟩) HS ?_
            refine takeH 11 104 undef rfl (by kernel_rfl) (by kernel_rfl) (by kernel_rfl) (by kernel_rfl) (fun _ _ _ h => h) (.inr ⟨by kernel_rfl, rfl⟩) HS ?_
            refine takeH 12 105 undef rfl (by kernel_rfl) (by kernel_rfl) (by kernel_rfl) (by kernel_rfl) (fun _ _ _ h => h) (.inr ⟨by kernel_rfl, rfl⟩) HS ?_
            refine takeH 13 106 undef rfl (by kernel_rfl) (by kernel_rfl) (by kernel_rfl) (by kernel_rfl) (fun _ _ _ h => h) (.inr ⟨by kernel_rfl, rfl⟩) HS ?_
            refine takeH 14 107 undef rfl (by kernel_rfl) (by kernel_rfl) (by kernel_rfl) (by kernel_rfl) (fun _ _ _ h => h) (.inr ⟨by kernel_rfl, rfl⟩) HS ?_
            refine takeH 15 108 undef rfl (by kernel_rfl) (by kernel_rfl) (by kernel_rfl) (by kernel_rfl) (fun _ _ _ h => h) (.inr ⟨by kernel_rfl, rfl⟩) HS ?_
            refine takeH 16 109 undef rfl (by kernel_rfl) (by kernel_rfl) (by kernel_rfl) (by kernel_rfl) (fun _ _ _ h => h) (.inr ⟨by kernel_rfl, rfl⟩) HS ?_
            refine takeH 17 110 undef rfl (by kernel_rfl) (by kernel_rfl) (by kernel_rfl) (by kernel_rfl) (fun _ _ _ h => h) (.inr ⟨by kernel_rfl, rfl⟩) HS ?_
            refine takeH 18 111 undef rfl (by kernel_rfl) (by kernel_rfl) (by kernel_rfl) (by kernel_rfl) (fun _ _ _ h => h) (.inr ⟨by kernel_rfl, rfl⟩) HS ?_
            refine takeH 19 112 undef rfl (by kernel_rfl) (by kernel_rfl) (by kernel_rfl) (by kernel_rfl) (fun _ _ _ h => h) (.inr ⟨by kernel_rfl, rfl⟩) HS ?_
            refine takeH 20 113 (.bool false) rfl (by kernel_rfl) (by kernel_rfl) (by kernel_rfl) (by kernel_rfl) (fun _ _ _ h => h) (.inl ⟨by kernel_rfl, fun W _ => (by kernel_rfl)⟩) HS ?_
            refine takeH 21 114 (.bool false) rfl (by kernel_rfl) (by kernel_rfl) (by kernel_rfl) (by kernel_rfl) (fun _ _ _ h => h) (.inl ⟨by kernel_rfl, fun W _ => (by kernel_rfl)⟩) HS ?_
            refine takeH 22 115 undef rfl (by kernel_rfl) (by kernel_rfl) (by kernel_rfl) (by kernel_rfl) (fun _ _ _ h => h) (.inr ⟨by kernel_rfl, rfl⟩) HS ?_
            refine takeH 23 116 undef rfl (by kernel_rfl) (by kernel_rfl) (by kernel_rfl) (by kernel_rfl) (fun _ _ _ h => h) (.inr ⟨by kernel_rfl, rfl⟩) HS ?_
            refine takeH 24 117 (.bool false) rfl (by kernel_rfl) (by kernel_rfl) (by kernel_rfl) (by kernel_rfl) (fun _ _ _ h => h) (.inl ⟨by kernel_rfl, fun W _ => (by kernel_rfl)⟩) HS ?_
            refine wpAnyH_done (by kernel_rfl) ?_ _
            clear HS hix hiy2 hn8
            simp only [List.setIfInBounds_toArray, List.set_cons_zero, List.set_cons_succ]
            have HD := Lib.hid (HI.out.same (w' := wr.drew) rfl HI.out.below.drew)
            clear HI hcx hcy hc0 HTX hld
            generalize wr.drew = wz at HD ⊢
            go_wp2_with fail
            go_roundw
            case rel => exact ⟨i + 1, by omega, by go_num, HD.out⟩
            case measure => simp [intOf]; omega
          · go_wp2_with (go_at_call 23; refine (HTX.out _).mono ?_; rintro e wr ⟨rfl, rfl⟩)
            refine wp_region_held (S := fun w' => w'.cell? ⟨g, i, none⟩ = some (.string x) ∧ w'.cell? ⟨g2, i, none⟩ = some (.string y)) (by kernel_rfl) ?_
            change wpAnyH _ _ _ _ _ _ _ _ wr.drew
            have HS : (fun w' : World => w'.cell? ⟨g, i, none⟩ = some (.string x) ∧ w'.cell? ⟨g2, i, none⟩ = some (.string y)) wr.drew := ⟨hcx, hcy⟩
            have hix : ∀ W, (Instr.indexAt 39 (.slice (some ⟨g, 0, none⟩) ys.length cap) (.int .i64 i)).run Tryd.prog W = .ok (.pointer (some ⟨g, i, none⟩)) W := idx_run _ _ _ i (by omega)
            have hiy2 : ∀ W, (Instr.indexAt 39 (.slice (some ⟨g2, 0, none⟩) ys.length cap2) (.int .i64 i)).run Tryd.prog W = .ok (.pointer (some ⟨g2, i, none⟩)) W := idx_run _ _ _ i (by omega)
            have hn8 : ∀ W, (binOp .neq 9 (.string x) (.string y)).run Tryd.prog W = .ok (.bool true) W := neq_run _ _ hxn
            refine takeH 0 93 (.slice (some ⟨g, 0, none⟩) ys.length cap) rfl (by kernel_rfl) (by kernel_rfl) (by kernel_rfl) (by kernel_rfl) (fun _ _ _ h => h) (.inl ⟨by kernel_rfl, fun W _ => (by kernel_rfl)⟩) HS ?_
            refine takeH 1 94 (.int .i64 i) rfl (by kernel_rfl) (by kernel_rfl) (by kernel_rfl) (by kernel_rfl) (fun _ _ _ h => h) (.inl ⟨by kernel_rfl, fun W _ => (by kernel_rfl)⟩) HS ?_
            refine takeH 2 95 (.pointer (some ⟨g, i, none⟩)) rfl (by kernel_rfl) (by kernel_rfl) (by kernel_rfl) (by kernel_rfl) (fun _ _ _ h => h) (.inl ⟨by kernel_rfl, fun W _ => addr_run _ _ _ rfl _ _ (by kernel_rfl) (by kernel_rfl) (hix W)⟩) HS ?_
            refine takeH 3 96 (.string x) rfl (by kernel_rfl) (by kernel_rfl) (by kernel_rfl) (by kernel_rfl) (fun _ _ _ h => h) (.inl ⟨by kernel_rfl, fun W hW => load_run 9 _ rfl ⟨g, i, none⟩ (by kernel_rfl) (hld _ _ _ hW.1)⟩) HS ?_
            refine takeH 4 97 (.slice (some ⟨g2, 0, none⟩) ys.length cap2) rfl (by kernel_rfl) (by kernel_rfl) (by kernel_rfl) (by kernel_rfl) (fun _ _ _ h => h) (.inl ⟨by kernel_rfl, fun W _ => (by kernel_rfl)⟩) HS ?_
            refine takeH 5 98 (.int .i64 i) rfl (by kernel_rfl) (by kernel_rfl) (by kernel_rfl) (by kernel_rfl) (fun _ _ _ h => h) (.inl ⟨by kernel_rfl, fun W _ => (by kernel_rfl)⟩) HS ?_
            refine takeH 6 99 (.pointer (some ⟨g2, i, none⟩)) rfl (by kernel_rfl) (by kernel_rfl) (by kernel_rfl) (by kernel_rfl) (fun _ _ _ h => h) (.inl ⟨by kernel_rfl, fun W _ => addr_run _ _ _ rfl _ _ (by kernel_rfl) (by kernel_rfl) (hiy2 W)⟩) HS ?_
            refine takeH 7 100 (.string y) rfl (by kernel_rfl) (by kernel_rfl) (by kernel_rfl) (by kernel_rfl) (fun _ _ _ h => h) (.inl ⟨by kernel_rfl, fun W hW => load_run 9 _ rfl ⟨g2, i, none⟩ (by kernel_rfl) (hld _ _ _ hW.2)⟩) HS ?_
            refine takeH 8 101 (.bool true) rfl (by kernel_rfl) (by kernel_rfl) (by kernel_rfl) (by kernel_rfl) (fun _ _ _ h => h) (.inl ⟨by kernel_rfl, fun W _ => bin_run _ _ _ _ _ rfl _ _ (by kernel_rfl) (by kernel_rfl) (by kernel_rfl) (hn8 W)⟩) HS ?_
            refine takeH 9 102 (.bool true) rfl (by kernel_rfl) (by kernel_rfl) (by kernel_rfl) (by kernel_rfl) (fun _ _ _ h => h) (.inl ⟨by kernel_rfl, fun W _ => (by kernel_rfl)⟩) HS ?_
            refine takeH 10 103 (.slice (some ⟨g, 0, none⟩) ys.length cap) rfl (by kernel_rfl) (by kernel_rfl) (by kernel_rfl) (by kernel_rfl) (fun _ _ _ h => h) (.inl ⟨by kernel_rfl, fun W _ => (by kernel_rfl)⟩) HS ?_
            refine takeH 11 104 (.int .i64 i) rfl (by kernel_rfl) (by kernel_rfl) (by kernel_rfl) (by kernel_rfl) (fun _ _ _ h => h) (.inl ⟨by kernel_rfl, fun W _ => (by kernel_rfl)⟩) HS ?_
            refine takeH 12 105 (.pointer (some ⟨g, i, none⟩)) rfl (by kernel_rfl) (by kernel_rfl) (by kernel_rfl) (by kernel_rfl) (fun _ _ _ h => h) (.inl ⟨by kernel_rfl, fun W _ => addr_run _ _ _ rfl _ _ (by kernel_rfl) (by kernel_rfl) (hix W)⟩) HS ?_
            refine takeH 13 106 (.string x) rfl (by kernel_rfl) (by kernel_rfl) (by kernel_rfl) (by kernel_rfl) (fun _ _ _ h => h) (.inl ⟨by kernel_rfl, fun W hW => load_run 9 _ rfl ⟨g, i, none⟩ (by kernel_rfl) (hld _ _ _ hW.1)⟩) HS ?_
            refine takeH 15 108 (.slice (some ⟨g2, 0, none⟩) ys.length cap2) rfl (by kernel_rfl) (by kernel_rfl) (by kernel_rfl) (by kernel_rfl) (fun _ _ _ h => h) (.inl ⟨by kernel_rfl, fun W _ => (by kernel_rfl)⟩) HS ?_
            refine takeH 16 109 (.int .i64 i) rfl (by kernel_rfl) (by kernel_rfl) (by kernel_rfl) (by kernel_rfl) (fun _ _ _ h => h) (.inl ⟨by kernel_rfl, fun W _ => (by kernel_rfl)⟩) HS ?_
            refine takeH 17 110 (.pointer (some ⟨g2, i, none⟩)) rfl (by kernel_rfl) (by kernel_rfl) (by kernel_rfl) (by kernel_rfl) (fun _ _ _ h => h) (.inl ⟨by kernel_rfl, fun W _ => addr_run _ _ _ rfl _ _ (by kernel_rfl) (by kernel_rfl) (hiy2 W)⟩) HS ?_
            refine takeH 18 111 (.string y) rfl (by kernel_rfl) (by kernel_rfl) (by kernel_rfl) (by kernel_rfl) (fun _ _ _ h => h) (.inl ⟨by kernel_rfl, fun W hW => load_run 9 _ rfl ⟨g2, i, none⟩ (by kernel_rfl) (hld _ _ _ hW.2)⟩) HS ?_
            refine anyH_one 14 (by kernel_rfl) rfl (by kernel_rfl) fun K hK => ?_
            go_simp
            refine (HTX.out _).mono ?_
            rintro e W ⟨rfl, hW⟩
            cases hW
            refine hK _ _ ⟨HS, ?_⟩
            clear hK K
            have hn19 : ∀ W, (binOp .neq 9 (.string tx) (.string y)).run Tryd.prog W = .ok (.bool false) W := neq_run _ _ htn
            refine takeH 19 112 (.bool false) rfl (by kernel_rfl) (by kernel_rfl) (by kernel_rfl) (by kernel_rfl) (fun _ _ _ h => h) (.inl ⟨by kernel_rfl, fun W _ => bin_run _ _ _ _ _ rfl _ _ (by kernel_rfl) (by kernel_rfl) (by kernel_rfl) (hn19 W)⟩) HS ?_
            refine takeH 20 113 (.bool false) rfl (by kernel_rfl) (by kernel_rfl) (by kernel_rfl) (by kernel_rfl) (fun _ _ _ h => h) (.inl ⟨by kernel_rfl, fun W _ => (by kernel_rfl)⟩) HS ?_
            refine takeH 21 114 (.bool false) rfl (by kernel_rfl) (by kernel_rfl) (by kernel_rfl) (by kernel_rfl) (fun _ _ _ h => h) (.inl ⟨by kernel_rfl, fun W _ => (by kernel_rfl)⟩) HS ?_
            refine takeH 22 115 undef rfl (by kernel_rfl) (by kernel_rfl) (by kernel_rfl) (by kernel_rfl) (fun _ _ _ h => h) (.inr ⟨by kernel_rfl, rfl⟩) HS ?_
            refine takeH 23 116 undef rfl (by kernel_rfl) (by kernel_rfl) (by kernel_rfl) (by kernel_rfl) (fun _ _ _ h => h) (.inr ⟨by kernel_rfl, rfl⟩) HS ?_
            refine takeH 24 117 (.bool false) rfl (by kernel_rfl) (by kernel_rfl) (by kernel_rfl) (by kernel_rfl) (fun _ _ _ h => h) (.inl ⟨by kernel_rfl, fun W _ => (by kernel_rfl)⟩) HS ?_
            refine wpAnyH_done (by kernel_rfl) ?_ _
            clear HS hix hiy2 hn8 hn19
            simp only [List.setIfInBounds_toArray, List.set_cons_zero, List.set_cons_succ]
            have HD := Lib.hid (HI.out.same (w' := wr.drew) rfl HI.out.below.drew)
            clear HI hcx hcy hc0 HTX hld
            generalize wr.drew = wz at HD ⊢
            go_wp2_with fail
            go_roundw
            case rel => exact ⟨i + 1, by omega, by go_num, HD.out⟩
            case measure => simp [intOf]; omega
        · rcases hcs with hxn | ⟨hxn, htn⟩
          · go_wp2_with (go_at_call 23; refine (HTX.out _).mono ?_; rintro e wr ⟨rfl, rfl⟩)
            refine wp_region_held (S := fun w' => w'.cell? ⟨g, i, none⟩ = some (.string x) ∧ w'.cell? ⟨g2, i, none⟩ = some (.string y)) (by kernel_rfl) ?_
            change wpAnyH _ _ _ _ _ _ _ _ wr.drew
            have HS : (fun w' : World => w'.cell? ⟨g, i, none⟩ = some (.string x) ∧ w'.cell? ⟨g2, i, none⟩ = some (.string y)) wr.drew := ⟨hcx, hcy⟩
            have hix : ∀ W, (Instr.indexAt 39 (.slice (some ⟨g, 0, none⟩) ys.length cap) (.int .i64 i)).run Tryd.prog W = .ok (.pointer (some ⟨g, i, none⟩)) W := idx_run _ _ _ i (by omega)
            have hiy2 : ∀ W, (Instr.indexAt 39 (.slice (some ⟨g2, 0, none⟩) ys.length cap2) (.int .i64 i)).run Tryd.prog W = .ok (.pointer (some ⟨g2, i, none⟩)) W := idx_run _ _ _ i (by omega)
            have hn8 : ∀ W, (binOp .neq 9 (.string x) (.string y)).run Tryd.prog W = .ok (.bool false) W := neq_run _ _ hxn
            refine takeH 0 93 (.slice (some ⟨g, 0, none⟩) ys.length cap) rfl (by kernel_rfl) (by kernel_rfl) (by kernel_rfl) (by kernel_rfl) (fun _ _ _ h => h) (.inl ⟨by kernel_rfl, fun W _ => (by kernel_rfl)⟩) HS ?_
            refine takeH 1 94 (.int .i64 i) rfl (by kernel_rfl) (by kernel_rfl) (by kernel_rfl) (by kernel_rfl) (fun _ _ _ h => h) (.inl ⟨by kernel_rfl, fun W _ => (by kernel_rfl)⟩) HS ?_
            refine takeH 2 95 (.pointer (some ⟨g, i, none⟩)) rfl (by kernel_rfl) (by kernel_rfl) (by kernel_rfl) (by kernel_rfl) (fun _ _ _ h => h) (.inl ⟨by kernel_rfl, fun W _ => addr_run _ _ _ rfl _ _ (by kernel_rfl) (by kernel_rfl) (hix W)⟩) HS ?_
            refine takeH 3 96 (.string x) rfl (by kernel_rfl) (by kernel_rfl) (by kernel_rfl) (by kernel_rfl) (fun _ _ _ h => h) (.inl ⟨by kernel_rfl, fun W hW => load_run 9 _ rfl ⟨g, i, none⟩ (by kernel_rfl) (hld _ _ _ hW.1)⟩) HS ?_
            refine takeH 4 97 (.slice (some ⟨g2, 0, none⟩) ys.length cap2) rfl (by kernel_rfl) (by kernel_rfl) (by kernel_rfl) (by kernel_rfl) (fun _ _ _ h => h) (.inl ⟨by kernel_rfl, fun W _ => (by kernel_rfl)⟩) HS ?_
            refine takeH 5 98 (.int .i64 i) rfl (by kernel_rfl) (by kernel_rfl) (by kernel_rfl) (by kernel_rfl) (fun _ _ _ h => h) (.inl ⟨by kernel_rfl, fun W _ => (by kernel_rfl)⟩) HS ?_
            refine takeH 6 99 (.pointer (some ⟨g2, i, none⟩)) rfl (by kernel_rfl) (by kernel_rfl) (by kernel_rfl) (by kernel_rfl) (fun _ _ _ h => h) (.inl ⟨by kernel_rfl, fun W _ => addr_run _ _ _ rfl _ _ (by kernel_rfl) (by kernel_rfl) (hiy2 W)⟩) HS ?_
            refine takeH 7 100 (.string y) rfl (by kernel_rfl) (by kernel_rfl) (by kernel_rfl) (by kernel_rfl) (fun _ _ _ h => h) (.inl ⟨by kernel_rfl, fun W hW => load_run 9 _ rfl ⟨g2, i, none⟩ (by kernel_rfl) (hld _ _ _ hW.2)⟩) HS ?_
            refine takeH 8 101 (.bool false) rfl (by kernel_rfl) (by kernel_rfl) (by kernel_rfl) (by kernel_rfl) (fun _ _ _ h => h) (.inl ⟨by kernel_rfl, fun W _ => bin_run _ _ _ _ _ rfl _ _ (by kernel_rfl) (by kernel_rfl) (by kernel_rfl) (hn8 W)⟩) HS ?_
            refine takeH 9 102 (.bool false) rfl (by kernel_rfl) (by kernel_rfl) (by kernel_rfl) (by kernel_rfl) (fun _ _ _ h => h) (.inl ⟨by kernel_rfl, fun W _ => (by kernel_rfl)⟩) HS ?_
            refine takeH 10 103 undef rfl (by kernel_rfl) (by kernel_rfl) (by kernel_rfl) (by kernel_rfl) (fun _ _ _ h => h) (.inr ⟨by kernel_rfl, rfl⟩) HS ?_
            refine takeH 11 104 undef rfl (by kernel_rfl) (by kernel_rfl) (by kernel_rfl) (by kernel_rfl) (fun _ _ _ h => h) (.inr ⟨by kernel_rfl, rfl⟩) HS ?_
            refine takeH 12 105 undef rfl (by kernel_rfl) (by kernel_rfl) (by kernel_rfl) (by kernel_rfl) (fun _ _ _ h => h) (.inr ⟨by kernel_rfl, rfl⟩) HS ?_
            refine takeH 13 106 undef rfl (by kernel_rfl) (by kernel_rfl) (by kernel_rfl) (by kernel_rfl) (fun _ _ _ h => h) (.inr ⟨by kernel_rfl, rfl⟩) HS ?_
            refine takeH 14 107 undef rfl (by kernel_rfl) (by kernel_rfl) (by kernel_rfl) (by kernel_rfl) (fun _ _ _ h => h) (.inr ⟨by kernel_rfl, rfl⟩) HS ?_
            refine takeH 15 108 undef rfl (by kernel_rfl) (by kernel_rfl) (by kernel_rfl) (by kernel_rfl) (fun _ _ _ h => h) (.inr ⟨by kernel_rfl, rfl⟩) HS ?_
            refine takeH 16 109 undef rfl (by kernel_rfl) (by kernel_rfl) (by kernel_rfl) (by kernel_rfl) (fun _ _ _ h => h) (.inr ⟨by kernel_rfl, rfl⟩) HS ?_
            refine takeH 17 110 undef rfl (by kernel_rfl) (by kernel_rfl) (by kernel_rfl) (by kernel_rfl) (fun _ _ _ h => h) (.inr ⟨by kernel_rfl, rfl⟩) HS ?_
            refine takeH 18 111 undef rfl (by kernel_rfl) (by kernel_rfl) (by kernel_rfl) (by kernel_rfl) (fun _ _ _ h => h) (.inr ⟨by kernel_rfl, rfl⟩) HS ?_
            refine takeH 19 112 undef rfl (by kernel_rfl) (by kernel_rfl) (by kernel_rfl) (by kernel_rfl) (fun _ _ _ h => h) (.inr ⟨by kernel_rfl, rfl⟩) HS ?_
            refine takeH 20 113 (.bool false) rfl (by kernel_rfl) (by kernel_rfl) (by kernel_rfl) (by kernel_rfl) (fun _ _ _ h => h) (.inl ⟨by kernel_rfl, fun W _ => (by kernel_rfl)⟩) HS ?_
            refine takeH 21 114 (.bool false) rfl (by kernel_rfl) (by kernel_rfl) (by kernel_rfl) (by kernel_rfl) (fun _ _ _ h => h) (.inl ⟨by kernel_rfl, fun W _ => (by kernel_rfl)⟩) HS ?_
            refine takeH 22 115 undef rfl (by kernel_rfl) (by kernel_rfl) (by kernel_rfl) (by kernel_rfl) (fun _ _ _ h => h) (.inr ⟨by kernel_rfl, rfl⟩) HS ?_
            refine takeH 23 116 undef rfl (by kernel_rfl) (by kernel_rfl) (by kernel_rfl) (by kernel_rfl) (fun _ _ _ h => h) (.inr ⟨by kernel_rfl, rfl⟩) HS ?_
            refine takeH 24 117 (.bool false) rfl (by kernel_rfl) (by kernel_rfl) (by kernel_rfl) (by kernel_rfl) (fun _ _ _ h => h) (.inl ⟨by kernel_rfl, fun W _ => (by kernel_rfl)⟩) HS ?_
            refine wpAnyH_done (by kernel_rfl) ?_ _
            clear HS hix hiy2 hn8
            simp only [List.setIfInBounds_toArray, List.set_cons_zero, List.set_cons_succ]
            have HD := Lib.hid (HI.out.same (w' := wr.drew) rfl HI.out.below.drew)
            clear HI hcx hcy hc0 HTX hld
            generalize wr.drew = wz at HD ⊢
            go_wp2_with fail
            go_roundw
            case rel => exact ⟨i + 1, by omega, by go_num, HD.out⟩
            case measure => simp [intOf]; omega
          · go_wp2_with (go_at_call 23; refine (HTX.out _).mono ?_; rintro e wr ⟨rfl, rfl⟩)
            refine wp_region_held (S := fun w' => w'.cell? ⟨g, i, none⟩ = some (.string x) ∧ w'.cell? ⟨g2, i, none⟩ = some (.string y)) (by kernel_rfl) ?_
            change wpAnyH _ _ _ _ _ _ _ _ wr.drew
            have HS : (fun w' : World => w'.cell? ⟨g, i, none⟩ = some (.string x) ∧ w'.cell? ⟨g2, i, none⟩ = some (.string y)) wr.drew := ⟨hcx, hcy⟩
            have hix : ∀ W, (Instr.indexAt 39 (.slice (some ⟨g, 0, none⟩) ys.length cap) (.int .i64 i)).run Tryd.prog W = .ok (.pointer (some ⟨g, i, none⟩)) W := idx_run _ _ _ i (by omega)
            have hiy2 : ∀ W, (Instr.indexAt 39 (.slice (some ⟨g2, 0, none⟩) ys.length cap2) (.int .i64 i)).run Tryd.prog W = .ok (.pointer (some ⟨g2, i, none⟩)) W := idx_run _ _ _ i (by omega)
            have hn8 : ∀ W, (binOp .neq 9 (.string x) (.string y)).run Tryd.prog W = .ok (.bool true) W := neq_run _ _ hxn
            refine takeH 0 93 (.slice (some ⟨g, 0, none⟩) ys.length cap) rfl (by kernel_rfl) (by kernel_rfl) (by kernel_rfl) (by kernel_rfl) (fun _ _ _ h => h) (.inl ⟨by kernel_rfl, fun W _ => (by kernel_rfl)⟩) HS ?_
            refine takeH 1 94 (.int .i64 i) rfl (by kernel_rfl) (by kernel_rfl) (by kernel_rfl) (by kernel_rfl) (fun _ _ _ h => h) (.inl ⟨by kernel_rfl, fun W _ => (by kernel_rfl)⟩) HS ?_
            refine takeH 2 95 (.pointer (some ⟨g, i, none⟩)) rfl (by kernel_rfl) (by kernel_rfl) (by kernel_rfl) (by kernel_rfl) (fun _ _ _ h => h) (.inl ⟨by kernel_rfl, fun W _ => addr_run _ _ _ rfl _ _ (by kernel_rfl) (by kernel_rfl) (hix W)⟩) HS ?_
            refine takeH 3 96 (.string x) rfl (by kernel_rfl) (by kernel_rfl) (by kernel_rfl) (by kernel_rfl) (fun _ _ _ h => h) (.inl ⟨by kernel_rfl, fun W hW => load_run 9 _ rfl ⟨g, i, none⟩ (by kernel_rfl) (hld _ _ _ hW.1)⟩) HS ?_
            refine takeH 4 97 (.slice (some ⟨g2, 0, none⟩) ys.length cap2) rfl (by kernel_rfl) (by kernel_rfl) (by kernel_rfl) (by kernel_rfl) (fun _ _ _ h => h) (.inl ⟨by kernel_rfl, fun W _ => (by kernel_rfl)⟩) HS ?_
            refine takeH 5 98 (.int .i64 i) rfl (by kernel_rfl) (by kernel_rfl) (by kernel_rfl) (by kernel_rfl) (fun _ _ _ h => h) (.inl ⟨by kernel_rfl, fun W _ => (by kernel_rfl)⟩) HS ?_
            refine takeH 6 99 (.pointer (some ⟨g2, i, none⟩)) rfl (by kernel_rfl) (by kernel_rfl) (by kernel_rfl) (by kernel_rfl) (fun _ _ _ h => h) (.inl ⟨by kernel_rfl, fun W _ => addr_run _ _ _ rfl _ _ (by kernel_rfl) (by kernel_rfl) (hiy2 W)⟩) HS ?_
            refine takeH 7 100 (.string y) rfl (by kernel_rfl) (by kernel_rfl) (by kernel_rfl) (by kernel_rfl) (fun _ _ _ h => h) (.inl ⟨by kernel_rfl, fun W hW => load_run 9 _ rfl ⟨g2, i, none⟩ (by kernel_rfl) (hld _ _ _ hW.2)⟩) HS ?_
            refine takeH 8 101 (.bool true) rfl (by kernel_rfl) (by kernel_rfl) (by kernel_rfl) (by kernel_rfl) (fun _ _ _ h => h) (.inl ⟨by kernel_rfl, fun W _ => bin_run _ _ _ _ _ rfl _ _ (by kernel_rfl) (by kernel_rfl) (by kernel_rfl) (hn8 W)⟩) HS ?_
            refine takeH 9 102 (.bool true) rfl (by kernel_rfl) (by kernel_rfl) (by kernel_rfl) (by kernel_rfl) (fun _ _ _ h => h) (.inl ⟨by kernel_rfl, fun W _ => (by kernel_rfl)⟩) HS ?_
            refine takeH 10 103 (.slice (some ⟨g, 0, none⟩) ys.length cap) rfl (by kernel_rfl) (by kernel_rfl) (by kernel_rfl) (by kernel_rfl) (fun _ _ _ h => h) (.inl ⟨by kernel_rfl, fun W _ => (by kernel_rfl)⟩) HS ?_
            refine takeH 11 104 (.int .i64 i) rfl (by kernel_rfl) (by kernel_rfl) (by kernel_rfl) (by kernel_rfl) (fun _ _ _ h => h) (.inl ⟨by kernel_rfl, fun W _ => (by kernel_rfl)⟩) HS ?_
            refine takeH 12 105 (.pointer (some ⟨g, i, none⟩)) rfl (by kernel_rfl) (by kernel_rfl) (by kernel_rfl) (by kernel_rfl) (fun _ _ _ h => h) (.inl ⟨by kernel_rfl, fun W _ => addr_run _ _ _ rfl _ _ (by kernel_rfl) (by kernel_rfl) (hix W)⟩) HS ?_
            refine takeH 13 106 (.string x) rfl (by kernel_rfl) (by kernel_rfl) (by kernel_rfl) (by kernel_rfl) (fun _ _ _ h => h) (.inl ⟨by kernel_rfl, fun W hW => load_run 9 _ rfl ⟨g, i, none⟩ (by kernel_rfl) (hld _ _ _ hW.1)⟩) HS ?_
            refine takeH 15 108 (.slice (some ⟨g2, 0, none⟩) ys.length cap2) rfl (by kernel_rfl) (by kernel_rfl) (by kernel_rfl) (by kernel_rfl) (fun _ _ _ h => h) (.inl ⟨by kernel_rfl, fun W _ => (by kernel_rfl)⟩) HS ?_
            refine takeH 16 109 (.int .i64 i) rfl (by kernel_rfl) (by kernel_rfl) (by kernel_rfl) (by kernel_rfl) (fun _ _ _ h => h) (.inl ⟨by kernel_rfl, fun W _ => (by kernel_rfl)⟩) HS ?_
            refine takeH 17 110 (.pointer (some ⟨g2, i, none⟩)) rfl (by kernel_rfl) (by kernel_rfl) (by kernel_rfl) (by kernel_rfl) (fun _ _ _ h => h) (.inl ⟨by kernel_rfl, fun W _ => addr_run _ _ _ rfl _ _ (by kernel_rfl) (by kernel_rfl) (hiy2 W)⟩) HS ?_
            refine takeH 18 111 (.string y) rfl (by kernel_rfl) (by kernel_rfl) (by kernel_rfl) (by kernel_rfl) (fun _ _ _ h => h) (.inl ⟨by kernel_rfl, fun W hW => load_run 9 _ rfl ⟨g2, i, none⟩ (by kernel_rfl) (hld _ _ _ hW.2)⟩) HS ?_
            refine anyH_one 14 (by kernel_rfl) rfl (by kernel_rfl) fun K hK => ?_
            go_simp
            refine (HTX.out _).mono ?_
            rintro e W ⟨rfl, hW⟩
            cases hW
            refine hK _ _ ⟨HS, ?_⟩
            clear hK K
            have hn19 : ∀ W, (binOp .neq 9 (.string tx) (.string y)).run Tryd.prog W = .ok (.bool false) W := neq_run _ _ htn
            refine takeH 19 112 (.bool false) rfl (by kernel_rfl) (by kernel_rfl) (by kernel_rfl) (by kernel_rfl) (fun _ _ _ h => h) (.inl ⟨by kernel_rfl, fun W _ => bin_run _ _ _ _ _ rfl _ _ (by kernel_rfl) (by kernel_rfl) (by kernel_rfl) (hn19 W)⟩) HS ?_
            refine takeH 20 113 (.bool false) rfl (by kernel_rfl) (by kernel_rfl) (by kernel_rfl) (by kernel_rfl) (fun _ _ _ h => h) (.inl ⟨by kernel_rfl, fun W _ => (by kernel_rfl)⟩) HS ?_
            refine takeH 21 114 (.bool false) rfl (by kernel_rfl) (by kernel_rfl) (by kernel_rfl) (by kernel_rfl) (fun _ _ _ h => h) (.inl ⟨by kernel_rfl, fun W _ => (by kernel_rfl)⟩) HS ?_
            refine takeH 22 115 undef rfl (by kernel_rfl) (by kernel_rfl) (by kernel_rfl) (by kernel_rfl) (fun _ _ _ h => h) (.inr ⟨by kernel_rfl, rfl⟩) HS ?_
            refine takeH 23 116 undef rfl (by kernel_rfl) (by kernel_rfl) (by kernel_rfl) (by kernel_rfl) (fun _ _ _ h => h) (.inr ⟨by kernel_rfl, rfl⟩) HS ?_
            refine takeH 24 117 (.bool false) rfl (by kernel_rfl) (by kernel_rfl) (by kernel_rfl) (by kernel_rfl) (fun _ _ _ h => h) (.inl ⟨by kernel_rfl, fun W _ => (by kernel_rfl)⟩) HS ?_
            refine wpAnyH_done (by kernel_rfl) ?_ _
            clear HS hix hiy2 hn8 hn19
            simp only [List.setIfInBounds_toArray, List.set_cons_zero, List.set_cons_succ]
            have HD := Lib.hid (HI.out.same (w' := wr.drew) rfl HI.out.below.drew)
            clear HI hcx hcy hc0 HTX hld
            generalize wr.drew = wz at HD ⊢
            go_wp2_with fail
            go_roundw
            case rel => exact ⟨i + 1, by omega, by go_num, HD.out⟩
            case measure => simp [intOf]; omega
    · have hil : (xs.length : Int) ≤ (i : Int) := by omega
      go_wp2_with fail
      go_ret
      exact ⟨rfl, HI.out.below⟩

end Go.Proofs.YtlhkelgkkfnfoaaDoor.forms
