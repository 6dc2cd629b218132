/- verbs.Print: a command's line. -/
import Derived.Test.YtlhkelgkkfnfoaaDoorA5
namespace Go.Proofs.YtlhkelgkkfnfoaaDoor
open Go.RowKit

theorem info9 : (Tryd.prog.info? 9).map (fun i => (i.zero, i.size, i.bytes)) = some (some (.string ⟨#[]⟩), 1, 16) := by kernel_rfl

/-- the word of the field that a letter names -/
def wordL (c : CmdN) (b : UInt8) : ByteArray :=
  if b = 105 then ⟨(printD c.id).toArray⟩ else if b = 112 then ⟨(printD c.pri).toArray⟩ else if b = 100 then ⟨(printD c.delay).toArray⟩
  else if b = 116 then ⟨(printD c.ttr).toArray⟩ else if b = 110 then ⟨(printD c.number).toArray⟩ else c.tube
/-- the words of a command's line -/
def wordsL (k : Nat) (c : CmdN) : List ByteArray := ⟨(verbAt k).toArray⟩ :: (behindAt k).map (wordL c)
def lineL (k : Nat) (c : CmdN) : List UInt8 := Lib.join ((wordsL k c).map fun x => x.data.toList) [32]

structure InPrint (w0 : World) (b1 it base : Nat) (cs : Array Value) (lets : ByteArray) (pos : Nat) (v : Value) (n : Nat) (xs : List Value) (wr : World) : Prop where
  row1 : wr.heap[b1]? = some (.cells cs 27 (0, 0))
  iter : wr.heap[it]? = some (.stringIter lets pos)
  below : Below w0.heap.size w0 wr
  new : w0.heap.size ≤ it
  ne1 : b1 ≠ it
  own : wr.ownsRow base 9 1 v n xs
  old : w0.heap.size ≤ base
  lt1 : b1 < base
theorem owns_below {w w' : World} {base e size n : Nat} {v : Value} {xs : List Value} (h : w.ownsRow base e size v n xs) (hb : Below w.heap.size w w') : w'.ownsRow base e size v n xs := by
  refine ⟨h.1, ?_⟩
  rcases h.2 with h2 | ⟨g, cap, cur, hv, hg, hh, r⟩
  · exact .inl h2
  · exact .inr ⟨g, cap, cur, hv, hg, (hb.block _ (lt_of_heap hh)).trans hh, r⟩
theorem owns_iterAt {w : World} {base e size n : Nat} {v : Value} {xs : List Value} (h : w.ownsRow base e size v n xs) {k : Nat} {s : ByteArray} {p : Nat} (hk : w.heap[k]? = some (.stringIter s p)) (q : Nat) : (w.iterAt k s q).ownsRow base e size v n xs := by
  refine ⟨h.1, ?_⟩
  rcases h.2 with h2 | ⟨g, cap, cur, hv, hg, hh, r⟩
  · exact .inl h2
  · have hne : g ≠ k := fun e => by rw [e, hk] at hh; cases hh
    exact .inr ⟨g, cap, cur, hv, hg, (Lib.iterAt_other _ _ _ _ _ hne).trans hh, r⟩
theorem InPrint.on {w0 : World} {b1 it base : Nat} {cs : Array Value} {lets : ByteArray} {pos : Nat} {v : Value} {n : Nat} {xs : List Value} {wr w' : World} (h : InPrint w0 b1 it base cs lets pos v n xs wr) (hb : Below wr.heap.size wr w') :
    InPrint w0 b1 it base cs lets pos v n xs w' :=
  ⟨(hb.block _ (lt_of_heap h.row1)).trans h.row1, (hb.block _ (lt_of_heap h.iter)).trans h.iter, h.below.trans (hb.mono h.below.size), h.new, h.ne1, owns_below h.own hb, h.old, h.lt1⟩
theorem InPrint.moved {w0 : World} {b1 it base : Nat} {cs : Array Value} {lets : ByteArray} {pos : Nat} {v : Value} {n : Nat} {xs : List Value} {wr : World} (h : InPrint w0 b1 it base cs lets pos v n xs wr) (p : Nat) :
    InPrint w0 b1 it base cs lets p v n xs (wr.iterAt it lets p) :=
  ⟨(Lib.iterAt_other _ _ _ _ _ h.ne1).trans h.row1, Lib.iterAt_heap _ _ _ _ _ h.iter, Lib.below_iterAt h.below h.new _ _, h.new, h.ne1, owns_iterAt h.own h.iter _, h.old, h.lt1⟩
theorem InPrint.grown {w0 : World} {b1 it base : Nat} {cs : Array Value} {lets : ByteArray} {pos : Nat} {v v' : Value} {n n' : Nat} {xs xs' : List Value} {wr w' : World} (h : InPrint w0 b1 it base cs lets pos v n xs wr)
    (hg : wr.grownBy w' v.ownBlock) (ho : w'.ownsRow base 9 1 v' n' xs') : InPrint w0 b1 it base cs lets pos v' n' xs' w' := by
  have hit : ∀ k, v.ownBlock = some k → base ≤ k ∧ k ≠ it := fun k hk => by
    refine ⟨(h.own.lt k hk).1, fun e => ?_⟩
    rcases h.own.2 with ⟨rfl, -⟩ | ⟨g, cap, cur, rfl, -, hh, -⟩
    · simp [Value.ownBlock] at hk
    · simp [Value.ownBlock] at hk
      rw [hk, e, h.iter] at hh; cases hh
  refine ⟨(hg.block _ (lt_of_heap h.row1) (fun e => ?_)).trans h.row1, (hg.block _ (lt_of_heap h.iter) (fun e => (hit _ e.symm).2 rfl)).trans h.iter, ?_, h.new, h.ne1, ho, h.old, h.lt1⟩
  · have := (hit _ e.symm).1; have := h.lt1; omega
  · exact h.below.trans ⟨hg.os, hg.tape, hg.output, hg.size, fun k hk => hg.block k (Nat.lt_of_lt_of_le hk h.below.size) (fun e => by have := (hit _ e.symm).1; have := h.old; omega)⟩

set_option maxHeartbeats 400000 in
theorem print_no (c : CmdN) (a : Option Addr) (n m : Nat) (w : World) (ht : c.tube.size ≤ 9223372036854775807) (h : (rightB c && ((c.kind == 1) || n == 0)) = false) :
    Calls Tryd.prog 17 #[.agg (c.cells (.slice a n m))] w fun e w' => e = .returned (.tuple #[.string ⟨#[]⟩, .int .i64 72]) ∧ Below w.heap.size w w' := by
  have HR := Lib.hid (right_any c (.slice a n m) (w.alloc (.cells (c.cells (.slice a n m)) 27)) ht)
  obtain ⟨r, hr⟩ : ∃ r, r = rightB c := ⟨_, rfl⟩
  rw [← hr] at HR h
  clear hr
  obtain ⟨kind, id, pri, delay, ttr, number, tube⟩ := c
  simp only [CmdN.cells] at HR h ⊢
  have hd : r = true → (kind != 1) = true ∧ 0 < (n : Int) := fun e => by
    subst e
    simp at h
    simp [h]; omega
  have HD := Lib.hid hd
  clear h hd
  go_enter Tryd.func17, Tryd.ntmps17
  go_wp2_with fail
  refine HR.out.mono ?_
  rintro e w1 ⟨rfl, hb⟩
  obtain ⟨hb2, hz, hr1⟩ := below_after hb
  have hx : w1.cell? ⟨w.heap.size, 7, none⟩ = some (.slice a n m) := (cell_of_row _ _ 7 _ 27 (0, 0) hr1).trans rfl
  have hx0 : w1.cell? ⟨w.heap.size, 0, none⟩ = some (.int .i64 kind) := (cell_of_row _ _ 0 _ 27 (0, 0) hr1).trans rfl
  clear hb hr1
  cases r
  · go_wp2_with fail
    go_ret2
    exact ⟨rfl, hb2⟩
  · obtain ⟨g1, g2⟩ := HD.out rfl
    go_wp2_with fail
    go_ret2
    exact ⟨rfl, hb2⟩
end Go.Proofs.YtlhkelgkkfnfoaaDoor
