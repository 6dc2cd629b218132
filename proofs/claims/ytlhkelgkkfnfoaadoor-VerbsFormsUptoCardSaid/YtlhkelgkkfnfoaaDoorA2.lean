/- The table of forms: what the function that makes it hands back. -/
import Derived.Test.YtlhkelgkkfnfoaaDoorA1
import Derived.Deep.WholeRow
namespace Go.Proofs.YtlhkelgkkfnfoaaDoor
open Go.RowKit

theorem ops_value {P : Program} {ops : Array Oper} {Q : Exit → Act → World → Prop} {i : Nat} {rest : List Nat} {a : Act} {w w' : World} {v : Value} {o : Oper} (ho : ops[i]? = some o) (hg : o.guard = none)
    (hr : (execOp a.eval o).run P w = .ok (.value v) w') (h : wpOps P ops Q rest (a.put o.dst v) w') : wpOps P ops Q (i :: rest) a w := by
  have hw : Region.wanted o (yielded ops a.tmps) = true := by simp [Region.wanted, hg]
  simp only [wpOps, ho, hw, if_true]
  refine .inl ?_
  unfold Oper.wp
  rw [hr]
  exact h
theorem ops_skip {P : Program} {ops : Array Oper} {Q : Exit → Act → World → Prop} {i : Nat} {rest : List Nat} {a : Act} {w w' : World} {o : Oper} (ho : ops[i]? = some o) (hg : o.guard = none)
    (hr : (execOp a.eval o).run P w = .ok .skip w') (h : wpOps P ops Q rest (a.put o.dst undef) w') : wpOps P ops Q (i :: rest) a w := by
  have hw : Region.wanted o (yielded ops a.tmps) = true := by simp [Region.wanted, hg]
  simp only [wpOps, ho, hw, if_true]
  refine .inl ?_
  unfold Oper.wp
  rw [hr]
  exact h

theorem ops_store_row {P : Program} {ops : Array Oper} {Q : Exit → Act → World → Prop} {i : Nat} {rest : List Nat} {a : Act} {w : World} {o : Oper} (hoi : ops[i]? = some o) (hgd : o.guard = none)
    (ty : TypeId) (x y : Operand) (ho : o.op = .store ty x y) (g : Nat) (cells : Array Value) (hx : a.eval x = .pointer (some ⟨g, 0, none⟩)) (hy : a.eval y = .agg cells)
    (t : TypeId) (old : Array Value) (hg : w.heap[g]? = some (.cells old t (0, 0))) (hi : (P.info? ty).map (·.size) = some cells.size)
    (hold : old.size = cells.size) (h1 : cells.all (·.oneCell') = true) (h : wpOps P ops Q rest (a.put o.dst undef) (w.setRow g cells)) : wpOps P ops Q (i :: rest) a w := by
  have hw : Region.wanted o (yielded ops a.tmps) = true := by simp [Region.wanted, hgd]
  simp only [wpOps, hoi, hw, if_true]
  exact .inl (wp_store_row ty x y ho g cells hx hy t old hg hi hold h1 h)

def formCells : Array Value := (formTab.flatMap fun p => [Value.string ⟨p.1.toArray⟩, Value.string ⟨p.2.toArray⟩]).toArray
def zeroForms : Array Value := (List.replicate 52 (Value.string ⟨#[]⟩)).toArray

theorem store_forms (w : World) : (Instr.storeAt 64 (.pointer (some ⟨w.heap.size, 0, none⟩)) (.agg formCells)).run Tryd.prog (w.alloc (.cells zeroForms 64)) = .ok () (w.alloc (.cells formCells 64)) :=
  run_storeAt_new w 64 zeroForms formCells (by kernel_rfl) (by kernel_rfl) (by kernel_rfl)

set_option maxRecDepth 100000 in
set_option maxHeartbeats 1000000 in
theorem forms_any (w : World) : Calls Tryd.prog 42 #[] w fun e w' => e = .returned (.agg formCells) ∧ w' = w.alloc (.cells formCells 64) := by
  refine calls_of_wp Tryd.func42 rfl ?_
  refine wp_seq (wp_region ?_)
  refine ops_value (v := .pointer (some ⟨w.heap.size, 0, none⟩)) (w' := w.alloc (.cells zeroForms 64)) rfl rfl (by kernel_rfl) ?_
  refine wp_seq (wp_region ?_)
  refine ops_value (w' := w.alloc (.cells zeroForms 64)) (v := .agg #[.string ⟨#[112, 117, 116]⟩, .string ⟨#[112, 100, 116, 110]⟩]) rfl rfl (by kernel_rfl) ?_
  refine ops_value (w' := w.alloc (.cells zeroForms 64)) (v := .agg #[.string ⟨#[117, 115, 101]⟩, .string ⟨#[117]⟩]) rfl rfl (by kernel_rfl) ?_
  refine ops_value (w' := w.alloc (.cells zeroForms 64)) (v := .agg #[.string ⟨#[114, 101, 115, 101, 114, 118, 101]⟩, .string ⟨#[]⟩]) rfl rfl (by kernel_rfl) ?_
  refine ops_value (w' := w.alloc (.cells zeroForms 64)) (v := .agg #[.string ⟨#[114, 101, 115, 101, 114, 118, 101, 45, 119, 105, 116, 104, 45, 116, 105, 109, 101, 111, 117, 116]⟩, .string ⟨#[110]⟩]) rfl rfl (by kernel_rfl) ?_
  refine ops_value (w' := w.alloc (.cells zeroForms 64)) (v := .agg #[.string ⟨#[114, 101, 115, 101, 114, 118, 101, 45, 106, 111, 98]⟩, .string ⟨#[105]⟩]) rfl rfl (by kernel_rfl) ?_
  refine ops_value (w' := w.alloc (.cells zeroForms 64)) (v := .agg #[.string ⟨#[100, 101, 108, 101, 116, 101]⟩, .string ⟨#[105]⟩]) rfl rfl (by kernel_rfl) ?_
  refine ops_value (w' := w.alloc (.cells zeroForms 64)) (v := .agg #[.string ⟨#[114, 101, 108, 101, 97, 115, 101]⟩, .string ⟨#[105, 112, 100]⟩]) rfl rfl (by kernel_rfl) ?_
  refine ops_value (w' := w.alloc (.cells zeroForms 64)) (v := .agg #[.string ⟨#[98, 117, 114, 121]⟩, .string ⟨#[105, 112]⟩]) rfl rfl (by kernel_rfl) ?_
  refine ops_value (w' := w.alloc (.cells zeroForms 64)) (v := .agg #[.string ⟨#[116, 111, 117, 99, 104]⟩, .string ⟨#[105]⟩]) rfl rfl (by kernel_rfl) ?_
  refine ops_value (w' := w.alloc (.cells zeroForms 64)) (v := .agg #[.string ⟨#[119, 97, 116, 99, 104]⟩, .string ⟨#[117]⟩]) rfl rfl (by kernel_rfl) ?_
  refine ops_value (w' := w.alloc (.cells zeroForms 64)) (v := .agg #[.string ⟨#[105, 103, 110, 111, 114, 101]⟩, .string ⟨#[117]⟩]) rfl rfl (by kernel_rfl) ?_
  refine ops_value (w' := w.alloc (.cells zeroForms 64)) (v := .agg #[.string ⟨#[112, 101, 101, 107]⟩, .string ⟨#[105]⟩]) rfl rfl (by kernel_rfl) ?_
  refine ops_value (w' := w.alloc (.cells zeroForms 64)) (v := .agg #[.string ⟨#[112, 101, 101, 107, 45, 114, 101, 97, 100, 121]⟩, .string ⟨#[]⟩]) rfl rfl (by kernel_rfl) ?_
  refine ops_value (w' := w.alloc (.cells zeroForms 64)) (v := .agg #[.string ⟨#[112, 101, 101, 107, 45, 100, 101, 108, 97, 121, 101, 100]⟩, .string ⟨#[]⟩]) rfl rfl (by kernel_rfl) ?_
  refine ops_value (w' := w.alloc (.cells zeroForms 64)) (v := .agg #[.string ⟨#[112, 101, 101, 107, 45, 98, 117, 114, 105, 101, 100]⟩, .string ⟨#[]⟩]) rfl rfl (by kernel_rfl) ?_
  refine ops_value (w' := w.alloc (.cells zeroForms 64)) (v := .agg #[.string ⟨#[107, 105, 99, 107]⟩, .string ⟨#[110]⟩]) rfl rfl (by kernel_rfl) ?_
  refine ops_value (w' := w.alloc (.cells zeroForms 64)) (v := .agg #[.string ⟨#[107, 105, 99, 107, 45, 106, 111, 98]⟩, .string ⟨#[105]⟩]) rfl rfl (by kernel_rfl) ?_
  refine ops_value (w' := w.alloc (.cells zeroForms 64)) (v := .agg #[.string ⟨#[115, 116, 97, 116, 115, 45, 106, 111, 98]⟩, .string ⟨#[105]⟩]) rfl rfl (by kernel_rfl) ?_
  refine ops_value (w' := w.alloc (.cells zeroForms 64)) (v := .agg #[.string ⟨#[115, 116, 97, 116, 115, 45, 116, 117, 98, 101]⟩, .string ⟨#[117]⟩]) rfl rfl (by kernel_rfl) ?_
  refine ops_value (w' := w.alloc (.cells zeroForms 64)) (v := .agg #[.string ⟨#[115, 116, 97, 116, 115]⟩, .string ⟨#[]⟩]) rfl rfl (by kernel_rfl) ?_
  refine ops_value (w' := w.alloc (.cells zeroForms 64)) (v := .agg #[.string ⟨#[108, 105, 115, 116, 45, 116, 117, 98, 101, 115]⟩, .string ⟨#[]⟩]) rfl rfl (by kernel_rfl) ?_
  refine ops_value (w' := w.alloc (.cells zeroForms 64)) (v := .agg #[.string ⟨#[108, 105, 115, 116, 45, 116, 117, 98, 101, 45, 117, 115, 101, 100]⟩, .string ⟨#[]⟩]) rfl rfl (by kernel_rfl) ?_
  refine ops_value (w' := w.alloc (.cells zeroForms 64)) (v := .agg #[.string ⟨#[108, 105, 115, 116, 45, 116, 117, 98, 101, 115, 45, 119, 97, 116, 99, 104, 101, 100]⟩, .string ⟨#[]⟩]) rfl rfl (by kernel_rfl) ?_
  refine ops_value (w' := w.alloc (.cells zeroForms 64)) (v := .agg #[.string ⟨#[112, 97, 117, 115, 101, 45, 116, 117, 98, 101]⟩, .string ⟨#[117, 110]⟩]) rfl rfl (by kernel_rfl) ?_
  refine ops_value (w' := w.alloc (.cells zeroForms 64)) (v := .agg #[.string ⟨#[113, 117, 105, 116]⟩, .string ⟨#[]⟩]) rfl rfl (by kernel_rfl) ?_
  refine ops_value (w' := w.alloc (.cells zeroForms 64)) (v := .agg formCells) rfl rfl (by kernel_rfl) ?_
  refine ops_store_row rfl rfl 64 _ _ rfl w.heap.size formCells (by kernel_rfl) (by kernel_rfl) 64 zeroForms (heap_alloc_last _ _) (by kernel_rfl) (by kernel_rfl) (by kernel_rfl) ?_
  rw [World.setRow_alloc_new]
  refine wp_ret ?_
  refine bodyPost_ret (v := .agg formCells) ?_ rfl ⟨rfl, rfl⟩
  exact results_cell_row rfl _ _ w.heap.size 64 formCells (0, 0) _ (by kernel_rfl) (heap_alloc_last _ _) Tryd.underlying64 (by kernel_rfl) (by kernel_rfl)

/-- the form of a kind, out of the table -/
theorem form_at (k : Nat) (h : k < 26) (w : World) : (Instr.index 64 (.agg formCells) (.int .i64 k)).run Tryd.prog w = .ok (.agg #[.string ⟨(verbAt k).toArray⟩, .string ⟨(behindAt k).toArray⟩]) w :=
  match k, h with
  | 0, _ => by kernel_rfl
  | 1, _ => by kernel_rfl
  | 2, _ => by kernel_rfl
  | 3, _ => by kernel_rfl
  | 4, _ => by kernel_rfl
  | 5, _ => by kernel_rfl
  | 6, _ => by kernel_rfl
  | 7, _ => by kernel_rfl
  | 8, _ => by kernel_rfl
  | 9, _ => by kernel_rfl
  | 10, _ => by kernel_rfl
  | 11, _ => by kernel_rfl
  | 12, _ => by kernel_rfl
  | 13, _ => by kernel_rfl
  | 14, _ => by kernel_rfl
  | 15, _ => by kernel_rfl
  | 16, _ => by kernel_rfl
  | 17, _ => by kernel_rfl
  | 18, _ => by kernel_rfl
  | 19, _ => by kernel_rfl
  | 20, _ => by kernel_rfl
  | 21, _ => by kernel_rfl
  | 22, _ => by kernel_rfl
  | 23, _ => by kernel_rfl
  | 24, _ => by kernel_rfl
  | 25, _ => by kernel_rfl
  | n + 26, h => absurd h (by omega)

set_option maxHeartbeats 400000 in
theorem formOf_no (k : Int) (w : World) (h : k < 1 ∨ 25 < k) : Calls Tryd.prog 24 #[.int .i64 k] w fun e w' => e = .returned (.tuple #[.agg #[.string ⟨#[]⟩, .string ⟨#[]⟩], .bool false]) ∧ Below w.heap.size w w' := by
  rcases h with h | h
  · go_enter Tryd.func24, Tryd.ntmps24
    go_wp2
    refine bodyPost_ret (v := .tuple #[.agg #[.string ⟨#[]⟩, .string ⟨#[]⟩], .bool false]) (by simp [results, Tryd.results24, go_sem]) rfl ⟨rfl, ?_⟩
    exact (Below.refl _ _).alloc (Nat.le_refl _) _
  · have h' : ¬ k < 1 := by omega
    go_enter Tryd.func24, Tryd.ntmps24
    go_wp2
    refine bodyPost_ret (v := .tuple #[.agg #[.string ⟨#[]⟩, .string ⟨#[]⟩], .bool false]) (by simp [results, Tryd.results24, go_sem]) rfl ⟨rfl, ?_⟩
    exact (Below.refl _ _).alloc (Nat.le_refl _) _
set_option maxHeartbeats 400000 in
theorem formOf_yes (k : Nat) (w : World) (h1 : 1 ≤ k) (h2 : k ≤ 25) : Calls Tryd.prog 24 #[.int .i64 k] w fun e w' => e = .returned (.tuple #[.agg #[.string ⟨(verbAt k).toArray⟩, .string ⟨(behindAt k).toArray⟩], .bool true]) ∧ Below w.heap.size w w' := by
  have hix : ∀ w, (Instr.index 64 (.agg formCells) (.int .i64 k)).run Tryd.prog w = _ := form_at k (by omega)
  have h1' : ¬ (k : Int) < 1 := by omega
  have h2' : ¬ 25 < (k : Int) := by omega
  go_enter Tryd.func24, Tryd.ntmps24
  go_wp2_with (go_at_call 42; refine (forms_any _).mono ?_; rintro e w' ⟨rfl, rfl⟩)
  refine bodyPost_ret (v := .tuple #[.agg #[.string ⟨(verbAt k).toArray⟩, .string ⟨(behindAt k).toArray⟩], .bool true]) (by simp [results, Tryd.results24, go_sem]) rfl ⟨rfl, ?_⟩
  repeat (first | exact Below.refl _ _ | refine Below.setCell ?_ (by simp) _ | refine Below.alloc ?_ (by simp) _)

set_option maxHeartbeats 400000 in
theorem name_no (k : Int) (w : World) (h : k < 1 ∨ 25 < k) : Calls Tryd.prog 11 #[.int .i64 k] w fun e w' => e = .returned (.string ⟨#[]⟩) ∧ Below w.heap.size w w' := by
  go_enter Tryd.func11, Tryd.ntmps11
  go_wp2_with (go_at_call 24; refine (formOf_no _ _ h).mono ?_; rintro e w1 ⟨rfl, hb⟩)
  go_ret
  refine ⟨rfl, ?_⟩
  repeat (first | exact hb | refine Below.setCell ?_ (by have := hb.size; simp; omega) _ | refine Below.alloc ?_ (by have := hb.size; simp; omega) _)
set_option maxHeartbeats 400000 in
theorem name_yes (k : Nat) (w : World) (h1 : 1 ≤ k) (h2 : k ≤ 25) : Calls Tryd.prog 11 #[.int .i64 k] w fun e w' => e = .returned (.string ⟨(verbAt k).toArray⟩) ∧ Below w.heap.size w w' := by
  go_enter Tryd.func11, Tryd.ntmps11
  go_wp2_with (go_at_call 24; refine (formOf_yes _ _ h1 h2).mono ?_; rintro e w1 ⟨rfl, hb⟩)
  go_ret
  refine ⟨rfl, ?_⟩
  repeat (first | exact hb | refine Below.setCell ?_ (by have := hb.size; simp; omega) _ | refine Below.alloc ?_ (by have := hb.size; simp; omega) _)

/-- no verb from the first kind on to this one is the word -/
def noneTo (l : List UInt8) (k : Nat) : Prop := ∀ j, 1 ≤ j → j < k → verbAt j ≠ l
theorem noneTo_step {l : List UInt8} {k : Nat} (h : noneTo l k) (hk : verbAt k ≠ l) : noneTo l (k + 1) := fun j h1 h2 => by
  by_cases e : j = k
  · exact e ▸ hk
  · exact h j h1 (by omega)
set_option maxHeartbeats 800000 in
theorem kindOf_any (s : ByteArray) (w : World) : Calls Tryd.prog 27 #[.string s] w fun e w' => ∃ k : Nat, e = .returned (.int .i64 k) ∧ k < 26 ∧ (k ≠ 0 → verbAt k = s.data.toList) ∧ (k = 0 → noneTo s.data.toList 26) ∧ Below w.heap.size w w' := by
  go_enter Tryd.func27, Tryd.ntmps27
  go_wp2_with (go_at_call 42; refine (forms_any _).mono ?_; rintro e w' ⟨rfl, rfl⟩)
  go_loopw [6, 4, 3] (fun t _ _ w' => ∃ k : Nat, k ≤ 26 ∧ t = .int .i64 k ∧ Hid (noneTo s.data.toList k) ∧ Below w.heap.size w w' ∧ w.heap.size < w'.heap.size) (fun t _ _ _ => 26 - (intOf t).toNat)
  case atStart => exact ⟨0, by omega, rfl, fun j h1 h2 => by omega, (Below.refl _ _).alloc (Nat.le_refl _) _, by simp⟩
  case round =>
    obtain ⟨k, hk, rfl, hn, hb, hz⟩ := hrel
    by_cases hlt : k < 26
    · have hix : ∀ w, (Instr.index 64 (.agg formCells) (.int .i64 k)).run Tryd.prog w = _ := form_at k hlt
      have hz' : w.heap.size ≤ wr.heap.size := by omega
      go_wp2
      · have he : (verbAt k == s.toList) = true := by assumption
        have h0 : 0 < k := by assumption
        go_ret
        refine ⟨k, rfl, hlt, fun _ => by rw [← ByteArray.toList_eq]; exact eq_of_beq he, fun h => absurd h (by omega), ?_⟩
        repeat (first | exact hb | refine Below.setCell ?_ (by first | omega | (simp; omega)) _ | refine Below.alloc ?_ (by first | omega | (simp; omega)) _)
      · have he : (verbAt k == s.toList) = false := by assumption
        go_roundw
        case rel =>
          refine ⟨k + 1, by omega, by go_num, noneTo_step hn.out (fun e => by rw [e, ByteArray.toList_eq] at he; simp at he), ?_, by simp; omega⟩
          repeat (first | exact hb | refine Below.setCell ?_ (by first | omega | (simp; omega)) _ | refine Below.alloc ?_ (by first | omega | (simp; omega)) _)
        case measure => simp [intOf]; omega
      · have h0 : ¬ 0 < k := by assumption
        go_roundw
        case rel =>
          refine ⟨k + 1, by omega, by go_num, fun j h1 h2 => by omega, ?_, by simp; omega⟩
          repeat (first | exact hb | refine Below.setCell ?_ (by first | omega | (simp; omega)) _ | refine Below.alloc ?_ (by first | omega | (simp; omega)) _)
        case measure => simp [intOf]; omega
    · go_wp2
      go_ret
      exact ⟨0, rfl, by omega, fun h => absurd rfl h, fun _ => (show k = 26 by omega) ▸ hn.out, hb⟩
end Go.Proofs.YtlhkelgkkfnfoaaDoor
