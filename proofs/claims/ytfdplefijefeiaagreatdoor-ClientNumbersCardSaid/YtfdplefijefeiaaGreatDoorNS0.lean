/- (*seats.Seats).First where nobody waits: -1; nothing that lay has turned. -/
import Derived.RangeFuncNested
import Derived.RangeFuncBound
import Derived.RangeFuncCalls
import Derived.RangeFuncLeaves
import Derived.RangeFuncFrom
import Derived.Shelf.Abstract
import Derived.Shelf.RegionOpen
import Derived.WalkKit
import Derived.OwnWalkIn
import Derived.TacticsInMore
import Derived.LoopNIn
import Derived.LoopIn
import Derived.Maps.AppendAt
import Derived.Test.YtfdplefijefeiaaGreatDoorProg
namespace Go.Proofs.YtfdplefijefeiaaGreatDoor
open Go.Proofs Go.RowKit Go.Shelf
attribute [local go_sem] Oper.semAt_some

theorem lt_of_cell {W : World} {b o : Nat} {v : Value} (h : W.cell? ⟨b, o, none⟩ = some v) : b < W.heap.size := by
  unfold World.cell? at h
  cases hb : W.heap[b]? with
  | none => rw [hb] at h; cases h
  | some x => exact (Array.getElem?_eq_some_iff.1 hb).1
theorem cell_of_box_l {W : World} {B : Nat} {v : Value} {t : TypeId} (h : W.heap[B]? = some (.cells #[v] t (0, 0))) : W.cell? ⟨B, 0, none⟩ = some v ∧ W.frozen? ⟨B, 0, none⟩ = false := by
  constructor <;> simp [World.cell?, World.frozen?, h]
theorem cell_new_l (W : World) (v : Value) (t : TypeId) : (W.alloc (.cells #[v] t)).cell? ⟨W.heap.size, 0, none⟩ = some v ∧ (W.alloc (.cells #[v] t)).frozen? ⟨W.heap.size, 0, none⟩ = false :=
  cell_of_box_l (World.alloc_heap_new W _)
theorem cell_alloc_l {W : World} {a : Addr} {v : Value} (o : Obj) (h : W.cell? a = some v) : (W.alloc o).cell? a = some v := cell_kept h (World.grownBy_alloc W o none) (fun r e => by cases e)
theorem frozen_alloc_l {W : World} {a : Addr} {v : Value} (o : Obj) (h : W.cell? a = some v) (hf : W.frozen? a = false) : (W.alloc o).frozen? a = false := (frozen_kept h (World.grownBy_alloc W o none) (fun r e => by cases e)).trans hf

set_option maxRecDepth 100000 in
set_option maxHeartbeats 2000000 in
theorem all1_empty (F : Fence) (n : Nat) (h6 : F.fn 205) (hro : F.round = none) (l B Bq oq : Nat) (W : World) (hB : W.cell? ⟨B, 0, none⟩ = some (.pointer (some ⟨Bq, oq, none⟩))) (hq : W.cell? ⟨Bq, oq, none⟩ = some (.pointer none)) :
    CallsIn F n Tryz.prog 205 #[.func (.yield l) #[] #[], .pointer (some ⟨B, 0, none⟩)] W fun e W' => (∃ v, e = .returned v) ∧ W' = W := by
  refine callsIn_of_wp Tryz.func205 rfl h6 ?_ hro
  simp only [Tryz.ntmps205, List.size_toArray, List.length_cons, List.length_nil, Nat.reduceAdd, Nat.reduceSub, Array.replicate_succ, Array.replicate_zero, List.push_toArray, List.append_toArray, List.nil_append, List.cons_append]
  gi_wp2
  refine wpIn_loop_once ?_
  gi_wp2
  refine wpIn_loop_once ?_
  gi_wp2
  go_end0
  exact ⟨⟨_, rfl⟩, rfl⟩

set_option maxRecDepth 100000 in
set_option maxHeartbeats 2000000 in
theorem all_any (F : Fence) (n : Nat) (h : F.fn 168) (hro : F.round = none) (p : Option Addr) (w : World) :
    CallsIn F n Tryz.prog 168 #[.pointer p] w fun e w' => e = .returned (.func (.func 205) #[] #[.pointer (some ⟨w.heap.size, 0, none⟩)]) ∧ w' = w.alloc (.cells #[.pointer p] 185) := by
  refine callsIn_of_wp Tryz.func168 rfl h ?_ hro
  simp only [Tryz.ntmps168, List.size_toArray, List.length_cons, List.length_nil, Nat.reduceAdd, Nat.reduceSub, Array.replicate_succ, Array.replicate_zero, List.push_toArray, List.append_toArray, List.nil_append, List.cons_append]
  gi_wp2
  go_ret
  exact ⟨rfl, rfl⟩

set_option maxRecDepth 100000 in
set_option maxHeartbeats 4000000 in
theorem first_empty_in (F : Fence) (n : Nat) (h1 : F.fn 133) (h2 : F.fn 168) (h3 : F.fn 205) (hro : F.round = none) (hn : 3 ≤ n) (Bs os Bq oq : Nat) (tube : ByteArray) (w : World)
    (hs : w.cell? ⟨Bs, os + 1, none⟩ = some (.pointer (some ⟨Bq, oq, none⟩))) (hq : w.cell? ⟨Bq, oq, none⟩ = some (.pointer none)) :
    CallsIn F n Tryz.prog 133 #[.pointer (some ⟨Bs, os, none⟩), .string tube] w fun e w' => e = .returned (.int .i64 (-1)) ∧ Below w.heap.size w w' := by
  have hn1 : 1 ≤ n := by omega
  refine callsIn_of_wp_marks Tryz.func133 rfl h1 ?_ hro
  simp only [Tryz.ntmps133, List.size_toArray, List.length_cons, List.length_nil, Nat.reduceAdd, Nat.reduceSub, Array.replicate_succ, Array.replicate_zero, List.push_toArray, List.append_toArray, List.nil_append, List.cons_append]
  have hs3 := cell_alloc_l (Obj.cells #[Value.int IntKind.i64 0] 3) (cell_alloc_l (Obj.cells #[Value.string tube] 9) (cell_alloc_l (Obj.cells #[Value.pointer (some { block := Bs, off := os })] 132) hs))
  have hq3 := cell_alloc_l (Obj.cells #[Value.int IntKind.i64 0] 3) (cell_alloc_l (Obj.cells #[Value.string tube] 9) (cell_alloc_l (Obj.cells #[Value.pointer (some { block := Bs, off := os })] 132) hq))
  have c0 := cell_new_l w (.pointer (some { block := Bs, off := os })) 132
  have c1 := cell_new_l (w.alloc (Obj.cells #[Value.pointer (some { block := Bs, off := os })] 132)) (.string tube) 9
  have c2 := cell_new_l ((w.alloc (Obj.cells #[Value.pointer (some { block := Bs, off := os })] 132)).alloc (Obj.cells #[Value.string tube] 9)) (.int .i64 0) 3
  simp only [World.size_alloc] at c1 c2
  gi_wp2_with (gi_at_call 168; refine (all_any F (n - 1) h2 hro _ _).mono ?_; rintro e w' ⟨rfl, rfl⟩)
  obtain ⟨W3, hW3⟩ : ∃ W3, ((w.alloc (Obj.cells #[Value.pointer (some { block := Bs, off := os })] 132)).alloc (Obj.cells #[Value.string tube] 9)).alloc (Obj.cells #[Value.int IntKind.i64 0] 3) = W3 := ⟨_, rfl⟩
  have hsz : W3.heap.size = w.heap.size + 1 + 1 + 1 := by rw [← hW3]; simp
  have hc2 : W3.cell? ⟨w.heap.size + 2, 0, none⟩ = some (.int .i64 0) ∧ W3.frozen? ⟨w.heap.size + 2, 0, none⟩ = false := by rw [← hW3]; exact ⟨c2.1, c2.2⟩
  have hB3 : Below w.heap.size w W3 := by rw [← hW3]; exact (((Below.refl _ w).alloc (Nat.le_refl _) _).alloc (by simp) _).alloc (by simp; omega) _
  rw [hW3] at hq3 ⊢
  have hb := cell_new_l W3 (.pointer (some ⟨Bq, oq, none⟩)) 185
  rw [hsz] at hb
  have hq4 := cell_alloc_l (Obj.cells #[Value.pointer (some ⟨Bq, oq, none⟩)] 185) hq3
  have hB4 : Below w.heap.size w (W3.alloc (Obj.cells #[Value.pointer (some ⟨Bq, oq, none⟩)] 185)) := hB3.alloc (by omega) _
  have hseq : SeqStopsK F (n - 1) Tryz.prog 205 #[.pointer (some ⟨w.heap.size + 1 + 1 + 1, 0, none⟩)] (fun _ : Unit => #[.int .i64 0, .int .i64 0]) (Below w.heap.size) (fun xs => xs = []) (fun _ => False) 0 (W3.alloc (Obj.cells #[Value.pointer (some ⟨Bq, oq, none⟩)] 185)) := by
    intro l J Jx W hW hJ hJx hY h0
    refine (all1_empty F (n - 1) h3 hro l (w.heap.size + 1 + 1 + 1) Bq oq W ?_ ?_).mono ?_
    · exact (hW.cell (p := ⟨w.heap.size + 1 + 1 + 1, 0, none⟩) (by simp [hsz])).trans hb.1
    · exact (hW.cell (p := ⟨Bq, oq, none⟩) (by exact lt_of_cell hq4)).trans hq4
    · rintro e W' ⟨hv, rfl⟩
      exact ⟨hv, .inl ⟨[], rfl, h0⟩⟩
  refine wpIn_rangeFunc_ownF hro hn1 (gf := 205) (lb := #[.pointer (some ⟨w.heap.size + 1 + 1 + 1, 0, none⟩)]) rfl h3 (enters_of Tryz.func205 (by kernel_rfl) rfl)
    hseq belowK_t (belowK_b (by simp; omega)) (Below.refl _ _) (fun _ => rfl)
    (fun _ W => (W.cell? ⟨w.heap.size + 2, 0, none⟩ = some (.int .i64 0) ∧ W.frozen? ⟨w.heap.size + 2, 0, none⟩ = false) ∧ Below w.heap.size w W)
    (fun _ _ _ => False)
    (OwnFrom.and (Own.from (fun s A B row hs hg hr => ⟨cell_kept hs.1 hg hr, (frozen_kept hs.1 hg hr).trans hs.2⟩) _) (ownFrom_below (Nat.le_refl _) (by simp; omega)))
    (fun _ _ _ _ _ hs _ _ => hs)
    ⟨⟨cell_alloc_l _ hc2.1, frozen_alloc_l _ hc2.1 hc2.2⟩, hB4⟩
    (fun _ => { tmps := #[.pointer (some ⟨Bs, os, none⟩), .string tube, .pointer (some ⟨w.heap.size, 0, none⟩), .pointer (some ⟨w.heap.size + 1, 0, none⟩), .pointer (some ⟨w.heap.size + 1 + 1, 0, none⟩), undef, .int .i64 0, .pointer (some ⟨Bs, os, none⟩), .pointer (some ⟨Bs, os, none⟩), .pointer (some ⟨Bs, os + 1, none⟩), .pointer (some ⟨Bq, oq, none⟩), .func (.func 205) #[] #[.pointer (some ⟨w.heap.size + 1 + 1 + 1, 0, none⟩)], .int .i64 0, .int .i64 0, undef, undef, undef, undef, undef, undef, undef, undef, undef, undef, undef, undef], defers := [] }) ?assign ?body ?done ?stop
  case assign =>
    intro l x W K hK
    gi_wp2
    exact hK
  case body =>
    intro l pre x W _ hlt
    omega
  case done =>
    rintro D ys W hD rfl ⟨⟨hc, hfz⟩, hB⟩ hK
    gi_wp2
    have hK' := (KeepsOthers.setCell W ⟨w.heap.size + 2, 0, none⟩ (.int .i64 (-1))).same D _ hK rfl
    refine ⟨by simp, .inl ⟨_, _, rfl, run_takeDeferred hK', ?_⟩⟩
    have hc5 := cell_kept (World.cell?_setCell_same' W ⟨w.heap.size + 2, 0, none⟩ (.int .i64 (-1)) (by rw [hc]; rfl)) (grownBy_putObj' _ D (.deferred none)) (fun r e => by cases e; exact ⟨_, hK', rfl⟩)
    refine ⟨.int .i64 (-1), ?_, rfl, (hB.setCell (p := ⟨w.heap.size + 2, 0, none⟩) (by simp) _).trans (belowK_b (w := w) (Nat.le_refl _) _ D _ _ (by simp [hsz] at hD; omega) hK' rfl rfl)⟩
    simp [results, Tryz.f133, go_sem, hc5]
  case stop =>
    rintro D c pre W _ _ h _
    exact h.elim

theorem first_empty (Bs os Bq oq : Nat) (tube : ByteArray) (w : World) (hs : w.cell? ⟨Bs, os + 1, none⟩ = some (.pointer (some ⟨Bq, oq, none⟩))) (hq : w.cell? ⟨Bq, oq, none⟩ = some (.pointer none)) :
    Calls Tryz.prog 133 #[.pointer (some ⟨Bs, os, none⟩), .string tube] w fun e w' => e = .returned (.int .i64 (-1)) ∧ Below w.heap.size w w' :=
  (callsIn_wide (n := 3)).1 (first_empty_in Fence.wide 3 trivial trivial trivial rfl (Nat.le_refl _) Bs os Bq oq tube w hs hq)
#print axioms first_empty
end Go.Proofs.YtfdplefijefeiaaGreatDoor
