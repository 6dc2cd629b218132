/- The reference's Join: words with a blank between. -/
import Derived.Test.YtlhkelgkkfnfoaaDoorF0
import Derived.Lib.AppendStr
import Derived.Test.YtlhkelgkkfnfoaaDoorD1
namespace Go.Proofs.YtlhkelgkkfnfoaaDoor
open Go.RowKit

/-- the first words, joined -/
def joined (xs : List ByteArray) (i : Nat) : List UInt8 := Lib.join ((xs.take i).map fun x => x.data.toList) [32]
theorem joined_zero (xs : List ByteArray) : joined xs 0 = [] := rfl
theorem joined_first (xs : List ByteArray) (h : 0 < xs.length) : joined xs 1 = xs[0].data.toList := by
  match xs, h with
  | x :: r, _ => simp [joined, Lib.join_one]
theorem joined_next (xs : List ByteArray) (i : Nat) (h : i < xs.length) (h0 : 0 < i) : joined xs (i + 1) = joined xs i ++ [32] ++ xs[i].data.toList := by
  match xs, i, h, h0 with
  | x :: r, j + 1, h, _ =>
    have hj : j < r.length := by simpa using h
    simp only [joined, List.take_succ_cons, List.map_cons, Lib.join_cons, List.map_take]
    rw [Lib.joinTail_take_succ [32] _ j r[j].data.toList (by rw [List.getElem?_map, List.getElem?_eq_getElem hj]; rfl)]
    simp [List.append_assoc]
theorem joined_le (xs : List ByteArray) (i : Nat) : ∀ k, i ≤ k → k ≤ xs.length → (joined xs i).length ≤ (joined xs k).length := by
  intro k
  induction k with
  | zero => intro h _; have : i = 0 := by omega
            subst this; exact Nat.le_refl _
  | succ k ih =>
    intro h hk
    by_cases e : i = k + 1
    · subst e; exact Nat.le_refl _
    · have h1 := ih (by omega) (by omega)
      by_cases h0 : 0 < k
      · rw [joined_next xs k (by omega) h0]
        simp only [List.length_append]; omega
      · have : k = 0 := by omega
        subst this
        rw [joined_zero] at h1
        simp at h1
        rw [h1]; simp
/-- bytes as cells -/
def cellsB (l : List UInt8) : List Value := l.map fun b => .int .u8 (b.toNat : Int)
theorem cellsB_append (a b : List UInt8) : cellsB (a ++ b) = cellsB a ++ cellsB b := by simp [cellsB]
theorem cellsB_str (s : ByteArray) : Lib.strCells s = cellsB s.data.toList := rfl

structure InJoin (w0 : World) (v : Value) (l : List UInt8) (wr : World) : Prop where
  own : wr.ownsRow w0.heap.size 5 1 v l.length (cellsB l)
  below : Below w0.heap.size w0 wr
theorem InJoin.grown {w0 wr w1 w' : World} {v v' : Value} {l l' : List UInt8} {n : Nat} {xs : List Value} (h : InJoin w0 v l wr) (hb : Below wr.heap.size wr w1) (ho : w'.ownsRow w0.heap.size 5 1 v' n xs) (hn : n = l'.length) (hx : xs = cellsB l')
    (hg : w1.grownBy w' v.ownBlock) : InJoin w0 v' l' w' :=
  ⟨by rw [← hn, ← hx]; exact ho, (h.below.trans (hb.mono h.below.size)).grown hg (Nat.le_trans h.below.size hb.size) fun k hk => (h.own.lt k hk).1⟩

theorem conv_own {w : World} {base : Nat} {v : Value} {l : List UInt8} (h : w.ownsRow base 5 1 v l.length (cellsB l)) (hl : 0 < l.length) : (convert 25 9 v).run Tryd.prog w = .ok (.string ⟨l.toArray⟩) w := by
  rcases h.2 with ⟨-, h0⟩ | ⟨g, cap, cur, rfl, -, hh, -, -, -, ht⟩
  · omega
  · refine run_convert_bytes_back w 25 9 5 ⟨g, 0, none⟩ cap l Tryd.underlying25 Tryd.underlying5 Tryd.underlying9 fun j hj => ?_
    have e : (⟨g, 0, none⟩ : Addr).add j = ⟨g, j, none⟩ := by unfold Addr.add; split <;> simp_all
    rw [e, cell_of_row _ _ j _ 5 _ hh]
    have h1 : (cur.toList.take (l.length * 1))[j]? = (cellsB l)[j]? := by rw [ht]
    rw [List.getElem?_take_of_lt (by omega)] at h1
    rw [← Array.getElem?_toList, h1]
    simp [cellsB, hj]

set_option maxHeartbeats 1000000 in
set_option maxRecDepth 20000 in
theorem refJoin_any (b o c : Nat) (xs : List ByteArray) (w : World) (hx : TextsAt w b o xs) (hb : b < w.heap.size) (hn : 0 < xs.length) (hn2 : xs.length ≤ 4294967295) (hw : allWords xs = true) (hl : (joined xs xs.length).length ≤ 140737488355328) :
    Calls Tryd.prog 41 #[.slice (some ⟨b, o, none⟩) xs.length c] w fun e w' => e = .returned (.tuple #[.string ⟨(joined xs xs.length).toArray⟩, .bool true]) ∧ Below w.heap.size w w' := by
  have HX := Lib.hid hx
  have HL := Lib.hid hl
  have HWD := Lib.hid (show ∀ (i : Nat) (h : i < xs.length), wordB xs[i].data.toList = true from fun i h => List.all_eq_true.1 hw _ (List.getElem_mem h))
  obtain ⟨i0, hi, hz0, hz1, hz2⟩ := info_parts info5
  clear hx hw hl
  have hz : ((xs.length : Int) == 0) = false := by
    have : ¬ (xs.length : Int) = 0 := by omega
    exact beq_eq_false_iff_ne.2 this
  go_enter Tryd.func41, Tryd.ntmps41
  go_wp2_with fail
  have HIN := Lib.hid (show InJoin w (.slice (some ⟨w.heap.size, 0, none⟩) 0 0) [] (w.alloc (.cells #[] 5)) from
    ⟨⟨rfl, .inr ⟨_, 0, #[], rfl, Nat.le_refl _, heap_alloc_last _ _, Nat.le_refl _, by decide, rfl, rfl⟩⟩, (Below.refl _ _).alloc (Nat.le_refl _) _⟩)
  go_loopw [4, 5] (fun v t wr => ∃ i : Nat, i ≤ xs.length ∧ t = .int .i64 i ∧ InJoin w v (joined xs i) wr) (fun _ t _ => xs.length - (intOf t).toNat)
  case atStart => exact ⟨0, Nat.zero_le _, rfl, HIN.out⟩
  case round =>
    obtain ⟨i, hle, rfl, hin⟩ := hrel
    clear HIN
    have HIN := Lib.hid hin
    clear hin
    by_cases hlt : i < xs.length
    · obtain ⟨x, hxx⟩ : ∃ x, x = xs[i] := ⟨_, rfl⟩
      have hc : wr.cell? ⟨b, o + i, none⟩ = some (.string x) := (HIN.out.below.cell (show b < w.heap.size from hb)).trans (HX.out i x (by rw [hxx]; exact List.getElem?_eq_getElem hlt))
      have HWX := Lib.hid (show wordB x.data.toList = true by rw [hxx]; exact HWD.out i hlt)
      have HNX := Lib.hid (fun h0 => joined_next xs i hlt h0)
      have HLE := Lib.hid (joined_le xs (i + 1) xs.length (by omega) (Nat.le_refl _))
      rw [← hxx] at HNX
      have HXI := Lib.hid hxx
      clear hxx
      have HXS := Lib.hid (show x.size ≤ 140737488355328 ∧ (joined xs i).length + x.size ≤ 140737488355328 ∧ (0 < i → (joined xs i).length + 1 + x.size ≤ 140737488355328) by
        have h1 := HLE.out
        have h2 := HL.out
        have hs : x.data.toList.length = x.size := by simp
        by_cases h0 : 0 < i
        · rw [HNX.out h0] at h1
          simp only [List.length_append, List.length_singleton, hs] at h1
          omega
        · have : i = 0 := by omega
          subst this
          rw [joined_first xs hn, ← HXI.out, hs] at h1
          rw [joined_zero]; simp; omega)
      have HW := Lib.hid (fun w => refWord_any x w (by have := HXS.out.1; omega))
      rw [HWX.out] at HW
      by_cases h0 : 0 < i
      · have HJ := Lib.hid (HNX.out h0)
        clear HNX HXI HWX HLE
        go_wp2_with fail
        refine (HW.out _).mono ?_
        rintro e wr ⟨rfl, rfl⟩
        have hbz := HIN.out.below.size
        go_wp2_with (at_builtin; refine wpList_append_own _ rfl _ _ 25 rfl w.heap.size 5 i0 (.int .u8 0) 1 1 Tryd.underlying25 hi hz0 hz1 hz2 rfl (by decide) _ _ _ rfl (owns_below HIN.out.own ((Below.refl _ _).alloc (Nat.le_refl _) _)) ⟨wr.heap.size, 0, none⟩ 1 1 [.int .u8 32] rfl rfl ?c1 ?c2 ?c3 ?c4 ?c5 ?_)
        case c1 => exact one_new _ _ _
        case c2 => intro u hu; simp at hu; subst hu; rfl
        case c3 => have := HXS.out.2.2 h0; unfold maxLen; omega
        case c4 => have := HXS.out.2.2 h0; omega
        case c5 => simp; omega
        intro v1 w4 hown hgrow _
        have HM := Lib.hid (HIN.out.grown (l' := joined xs i ++ [32]) ((Below.refl _ _).alloc (Nat.le_refl _) _) hown (by simp) (by rw [cellsB_append]; rfl) hgrow)
        have hc4 : w4.cell? ⟨b, o + i, none⟩ = some (.string x) := (HM.out.below.cell (show b < w.heap.size from hb)).trans ((HIN.out.below.cell (show b < w.heap.size from hb)).symm.trans hc)
        clear hown hgrow HIN hc hbz
        have hbz := HM.out.below.size
        go_wp2_with (at_builtin; refine Lib.wpList_append_own_string _ rfl _ _ 25 9 rfl w.heap.size 5 i0 Tryd.underlying25 Tryd.underlying9 hi hz0 hz1 hz2 v1 _ _ rfl HM.out.own x rfl ?c3 ?c4 ?c5 ?_)
        case c3 => have := HXS.out.2.2 h0; unfold maxLen; simp; omega
        case c4 => have := HXS.out.2.2 h0; simp; omega
        case c5 => exact hbz
        intro v2 w5 hown hgrow _
        have HN := Lib.hid (HM.out.grown (l' := joined xs (i + 1)) (Below.refl _ _) hown (by rw [HJ.out]; simp [Nat.add_assoc, Nat.add_comm]) (by simp only [HJ.out, cellsB_append, cellsB_str]) hgrow)
        clear hown hgrow HM hc4 hbz
        go_wp2_with fail
        go_roundw
        case rel => exact ⟨i + 1, by omega, by go_num, HN.out⟩
        case measure => simp [intOf]; omega
      · obtain rfl : i = 0 := by omega
        have hc : wr.cell? ⟨b, o, none⟩ = some (.string x) := hc
        have HJ := Lib.hid (show joined xs (0 + 1) = joined xs 0 ++ x.data.toList by rw [HXI.out]; exact joined_first xs hn)
        clear HNX HXI HWX HLE
        go_wp2_with fail
        refine (HW.out _).mono ?_
        rintro e wr ⟨rfl, rfl⟩
        have hbz := HIN.out.below.size
        go_wp2_with (at_builtin; refine Lib.wpList_append_own_string _ rfl _ _ 25 9 rfl w.heap.size 5 i0 Tryd.underlying25 Tryd.underlying9 hi hz0 hz1 hz2 _ _ _ rfl HIN.out.own x rfl ?c3 ?c4 ?c5 ?_)
        case c3 => have := HXS.out.2.1; unfold maxLen; omega
        case c4 => have := HXS.out.2.1; omega
        case c5 => exact hbz
        intro v2 w5 hown hgrow _
        have HN := Lib.hid (HIN.out.grown (l' := joined xs (0 + 1)) (Below.refl _ _) hown (by rw [HJ.out]; simp [Nat.add_comm]) (by simp only [HJ.out, cellsB_append, cellsB_str]) hgrow)
        clear hown hgrow HIN hc hbz
        go_wp2_with fail
        go_roundw
        case rel => exact ⟨0 + 1, by omega, by go_num, HN.out⟩
        case measure => simp [intOf]; omega
    · obtain rfl : i = xs.length := by omega
      have hcv := conv_own HIN.out.own (by
        have h1 := joined_le xs 1 xs.length (by omega) (Nat.le_refl _)
        rw [joined_first xs hn] at h1
        have h2 := HWD.out 0 hn
        have : xs[0].data.toList ≠ [] := fun e => by rw [e] at h2; cases h2
        have := List.length_pos_iff.2 this
        omega)
      have HB := Lib.hid HIN.out.below
      clear HIN
      go_wp2_with fail
      go_ret2
      exact ⟨rfl, HB.out⟩
end Go.Proofs.YtlhkelgkkfnfoaaDoor
