/- The laws' lent and still: a body with four bytes behind it, and whether it is as it was. -/
import Derived.Test.YtlhkelgkkfnfoaaDoorB2
import Derived.Deep.OwnRows
import Derived.Laws.CopyRow
import Derived.Laws.CopyOwn
import Derived.Laws.IdiomCopy
import Derived.Lib.SlBuf
import Derived.StillTailTactics
namespace Go.Proofs.YtlhkelgkkfnfoaaDoor
open Go.RowKit

theorem still_in {P : Program} {ops : Array Oper} {w : World} {Q : Act → Prop} {a : Act} {o : Oper} {rest : List Oper} (hw : Region.wanted o (yielded ops a.tmps) = true)
    (h : ∀ K : Act → Prop, (∀ a, wpStill P ops w Q rest a → K a) → o.still P a w K) : wpStill P ops w Q (o :: rest) a :=
  wpStill_step fun K hK => by rw [if_pos hw]; exact h K hK
theorem still_out {P : Program} {ops : Array Oper} {w : World} {Q : Act → Prop} {a : Act} {o : Oper} {rest : List Oper} (hw : Region.wanted o (yielded ops a.tmps) = false)
    (h : ∀ K : Act → Prop, (∀ a, wpStill P ops w Q rest a → K a) → K (a.put o.dst undef)) : wpStill P ops w Q (o :: rest) a :=
  wpStill_step fun K hK => by rw [if_neg (by rw [hw]; simp)]; exact h K hK
/-- a slice's bytes, below a block -/
def BodyAt (w : World) (a : Option Addr) (n : Nat) (bs : Nat → Int) : Prop :=
  n = 0 ∨ ∃ b off, a = some ⟨b, off, none⟩ ∧ b < w.heap.size ∧ ∀ j, j < n → w.cell? ⟨b, off + j, none⟩ = some (.int .u8 (bs j))
theorem BodyAt.on {w w' : World} {a : Option Addr} {n : Nat} {bs : Nat → Int} (h : BodyAt w a n bs) (hb : Below w.heap.size w w') : BodyAt w' a n bs := by
  rcases h with h | ⟨b, off, rfl, hlt, hc⟩
  · exact .inl h
  · exact .inr ⟨b, off, rfl, Nat.lt_of_lt_of_le hlt hb.size, fun j hj => (hb.cell (show b < w.heap.size from hlt)).trans (hc j hj)⟩

theorem info5 : (Tryd.prog.info? 5).map (fun i => (i.zero, i.size, i.bytes)) = some (some (.int .u8 0), 1, 1) := by kernel_rfl
theorem size5 : (Tryd.prog.info? 5).map (·.size) = some 1 := by kernel_rfl

/-- what lent lays -/
def lentF (n : Nat) (bs : Nat → Int) (k : Nat) (j : Nat) : Value := if j < n then .int .u8 (bs j) else if j < k then .int .u8 165 else .int .u8 0

theorem copy_lent (w : World) (a : Option Addr) (n m : Nat) (bs : Nat → Int) (hB : BodyAt w a n bs) (ty : TypeId) :
    ∃ w1, (Builtin.copy_ #[25, 25] ty #[.slice (some ⟨w.heap.size, 0, none⟩) (n + 4) (n + 4), .slice a n m]).run Tryd.prog (w.alloc (.cells (madeCells #[.int .u8 0] (n + 4)) 5)) = .ok (goInt n) w1 ∧
      Below w.heap.size w w1 ∧ w1.rowIs w.heap.size 5 (n + 4) (lentF n bs n) := by
  have hmade := World.rowIs_made w (.int .u8 0) (n + 4) 5
  have hba : Below w.heap.size w (w.alloc (.cells (madeCells #[.int .u8 0] (n + 4)) 5)) := (Below.refl _ _).alloc (Nat.le_refl _) _
  rcases hB with rfl | ⟨b, off, rfl, hlt, hc⟩
  · refine ⟨_, run_copy_none _ 25 25 ty 5 _ _ _ _ _ _ Tryd.underlying25 size5 (by simp), hba, hmade.congr fun i _ => by simp [lentF]⟩
  · obtain ⟨c, hbk, hn, hcc⟩ := hmade
    have hlen : ((List.range n).map fun j => Value.int .u8 (bs j)).length = n := by simp
    have hr := run_copy_row (P := Tryd.prog) (w.alloc (.cells (madeCells #[.int .u8 0] (n + 4)) 5)) 25 25 ty 5 w.heap.size 0 (n + 4) (n + 4) ⟨b, off, none⟩ n m c 5 ((List.range n).map fun j => Value.int .u8 (bs j)) Tryd.underlying25 size5 hbk
      (by rw [hlen]; simp) (fun j v hj => by
        have hjn : j < n := by have := (List.getElem?_eq_some_iff.1 hj).1; simpa using this
        have e : (⟨b, off, none⟩ : Addr).add j = ⟨b, off + j, none⟩ := by unfold Addr.add; split <;> simp_all
        rw [e, hba.cell (show b < w.heap.size from hlt), hc j hjn]
        simp [hjn] at hj
        rw [hj]) (by rw [hlen]; omega) (fun v hv => by
        obtain ⟨j, _, rfl⟩ := List.mem_map.1 hv
        rfl)
    rw [hlen] at hr
    refine ⟨_, hr, ?_, ?_⟩
    · exact below_setRow hba (Nat.le_refl _) _
    · refine ⟨_, setRow_heap _ _ _ _ _ _ hbk, ?_, ?_⟩
      · simp [hn]
      · intro i hi
        have hci := hcc i hi
        simp only [List.take_zero, List.nil_append, Nat.zero_add, List.getElem?_toArray]
        by_cases hin : i < n
        · rw [List.getElem?_append_left (by simpa using hin)]
          simp [hin, lentF]
        · rw [List.getElem?_append_right (by simpa using hin), List.getElem?_drop]
          simp only [List.length_map, List.length_range]
          rw [show n + (i - n) = i by omega, Array.getElem?_toList, hci]
          simp [lentF, hin]

set_option maxHeartbeats 400000 in
set_option maxRecDepth 20000 in
theorem lent_any (a : Option Addr) (n m : Nat) (bs : Nat → Int) (w : World) (hB : BodyAt w a n bs) (hn : n ≤ 1048576) :
    Calls Tryd.prog 16 #[.slice a n m] w fun e w' => e = .returned (.slice (some ⟨w.heap.size, 0, none⟩) (n + 4) (n + 4)) ∧ Below w.heap.size w w' ∧ w'.rowIs w.heap.size 5 (n + 4) (lentF n bs (n + 4)) := by
  obtain ⟨w1, hr, hb, hrow⟩ := copy_lent w a n m bs hB 3
  clear hB
  have HB := Lib.hid hb
  have HR := Lib.hid hrow
  obtain ⟨i, hi, hzz⟩ := Option.map_eq_some_iff.1 info5
  simp only [Prod.mk.injEq] at hzz
  obtain ⟨hz, hs, hby⟩ := hzz
  clear hb hrow
  go_enter Tryd.func16, Tryd.ntmps16
  go_wp2_with (first
    | (with_reducible refine wpList_make_row _ rfl _ _ 25 rfl 5 i (.int .u8 0) Tryd.underlying25 hi hz hs rfl .i64 .i64 (n + 4) rfl rfl (by rw [hby]; omega) (by omega) ?_)
    | (with_reducible refine Lib.wpList_copy_run _ rfl _ _ 25 25 rfl _ _ rfl rfl hr ?_))
  go_loopw [4] (fun t wr => ∃ k, n ≤ k ∧ k ≤ n + 4 ∧ t = .int .i64 k ∧ Below w.heap.size w wr ∧ wr.rowIs w.heap.size 5 (n + 4) (lentF n bs k)) (fun t _ => n + 4 - (intOf t).toNat)
  case atStart => exact ⟨n, Nat.le_refl _, by omega, rfl, HB.out, HR.out⟩
  case round =>
    obtain ⟨k, hk0, hk1, rfl, hbw, hrw⟩ := hrel
    clear HB HR hr
    by_cases hlt : k < n + 4
    · have hx : _ = _ := hrw.cell hlt
      have hf : _ = _ := hrw.frozen k
      have HS := Lib.hid (hrw.set k (.int .u8 165))
      have HW := Lib.hid hbw
      clear hrw hbw
      go_wp2_with fail
      go_roundw
      case rel => exact ⟨k + 1, by omega, by omega, by go_num, HW.out.setCell (Nat.le_refl _) _, HS.out.congr fun i hi => by simp only [lentF]; split <;> split <;> (try split) <;> (first | rfl | omega | simp_all; omega)⟩
      case measure => simp [intOf]; omega
    · obtain rfl : k = n + 4 := by omega
      go_wp2_with fail
      go_ret
      exact ⟨rfl, hbw, hrw⟩

set_option maxHeartbeats 800000 in
set_option maxRecDepth 20000 in
theorem still_any (g : Nat) (a : Option Addr) (n m : Nat) (bs : Nat → Int) (w : World) (hB : BodyAt w a n bs) (hg : w.rowIs g 5 (n + 4) (lentF n bs (n + 4))) (hn : n ≤ 1048576) :
    Calls Tryd.prog 18 #[.slice (some ⟨g, 0, none⟩) (n + 4) (n + 4), .slice a n m] w fun e w' => e = .returned (.bool true) ∧ Below w.heap.size w w' := by
  have HB := Lib.hid hB
  have HG := Lib.hid hg
  clear hB hg
  go_enter Tryd.func18, Tryd.ntmps18
  go_wp2_with fail
  go_loopw [5] (fun t wr => ∃ k : Nat, k ≤ n + 4 ∧ t = .int .i64 k ∧ Below w.heap.size w wr) (fun t _ => n + 4 - (intOf t).toNat)
  case atStart => exact ⟨0, by omega, rfl, Below.refl _ _⟩
  case round =>
    obtain ⟨k, hk1, rfl, hbw⟩ := hrel
    by_cases hlt : k < n + 4
    · have hx : wr.cell? ⟨g, k, none⟩ = some (lentF n bs (n + 4) k) := (hbw.cell HG.out.lt).trans (HG.out.cell hlt)
      by_cases hin : k < n
      · obtain ⟨b, off, rfl, hlt2, hc⟩ := HB.out.resolve_left (by omega)
        have hy : wr.cell? ⟨b, off + k, none⟩ = some (.int .u8 (bs k)) := (hbw.cell (show b < w.heap.size from hlt2)).trans (hc k hin)
        rw [show lentF n bs (n + 4) k = .int .u8 (bs k) by simp [lentF, hin]] at hx
        have HW := Lib.hid hbw.drew
        have hnk : decide (n ≤ k) = false := by simpa using hin
        clear hbw hc
        have hy' : wr.drew.cell? ⟨b, off + k, none⟩ = some (.int .u8 (bs k)) := hy
        have hx' : wr.drew.cell? ⟨g, k, none⟩ = some (.int .u8 (bs k)) := hx
        clear hx hy
        go_wp2_with fail
        refine wp_region_still_lit (by kernel_rfl) (by kernel_rfl) ?_
        change wpStill _ _ wr.drew (fun a' => Exit.then _ _ Exit.normal a' wr.drew) _ _
        generalize wr.drew = W1 at HW hx' hy' ⊢
        repeat
          first
          | (with_reducible refine still_in (by with_unfolding_all exact rfl) (fun K hK => ?_)
             go_simp
             with_reducible refine hK _ ?_
             clear hK K)
          | (with_reducible refine still_out (by with_unfolding_all exact rfl) (fun K hK => ?_)
             go_simp
             with_reducible refine hK _ ?_
             clear hK K)
        refine wpStill_nil ?_
        go_wp2_with fail
        go_roundw
        case rel => exact ⟨k + 1, by omega, by go_num, HW.out⟩
        case measure => simp [intOf]; omega
      · rw [show lentF n bs (n + 4) k = .int .u8 165 by simp [lentF, hin, hlt]] at hx
        have HW := Lib.hid hbw.drew
        have hnk : decide (n ≤ k) = true := by simpa using hin
        have hkn : decide (k < n) = false := by simpa using hin
        clear hbw
        have hx' : wr.drew.cell? ⟨g, k, none⟩ = some (.int .u8 165) := hx
        clear hx
        go_wp2_with fail
        refine wp_region_still_lit (by kernel_rfl) (by kernel_rfl) ?_
        change wpStill _ _ wr.drew (fun a' => Exit.then _ _ Exit.normal a' wr.drew) _ _
        generalize wr.drew = W1 at HW hx' ⊢
        repeat
          first
          | (with_reducible refine still_in (by with_unfolding_all exact rfl) (fun K hK => ?_)
             go_simp
             with_reducible refine hK _ ?_
             clear hK K)
          | (with_reducible refine still_out (by with_unfolding_all exact rfl) (fun K hK => ?_)
             go_simp
             with_reducible refine hK _ ?_
             clear hK K)
        refine wpStill_nil ?_
        go_wp2_with fail
        go_roundw
        case rel => exact ⟨k + 1, by omega, by go_num, HW.out⟩
        case measure => simp [intOf]; omega
    · go_wp2_with fail
      go_ret
      exact ⟨rfl, hbw⟩
end Go.Proofs.YtlhkelgkkfnfoaaDoor
