/- A command that comes in by value: its fields, its body's bytes. -/
import Derived.Test.YtlhkelgkkfnfoaaDoorC0
import Derived.Test.YtlhkelgkkfnfoaaDoorD1
import Derived.Carry
import Derived.Lib.SmallJoins
import Derived.ChangeSlices
namespace Go.Proofs.YtlhkelgkkfnfoaaDoor
open Go.Joins Go.ChangeShapes Go.WideShapes Go.RowKit Go.Deep Go.ChangeAt

section
variable {H : Type} {enc : TypeId × Value → H} {P : Program} {w : World} {base : Nat} {spare : Nat → Bool} {held : Bool}
theorem open_agg8 {r : Reach} {b0 : Nat} {t : TypeId} {f0 f1 f2 f3 f4 f5 f6 f7 : Field} {v : Value} {d : DataW H} {p : List MemPlace} (hs : P.underlying t = some (.struct #[f0, f1, f2, f3, f4, f5, f6, f7])) (hone : oneCellFields P #[f0, f1, f2, f3, f4, f5, f6, f7] = true) (hC : P.cellsOf t = 8)
    (hv : Value.okWide P w r b0 t v) (h : DataW.Trod enc P w base spare held t v d p) :
    ∃ (v0 v1 v2 v3 v4 v5 v6 v7 : Value) (y0 y1 y2 y3 y4 y5 y6 y7 : DataW H × List MemPlace) (n : Nat), v = .agg #[v0, v1, v2, v3, v4, v5, v6, v7] ∧ d = .agg [y0.1, y1.1, y2.1, y3.1, y4.1, y5.1, y6.1, y7.1] ∧ p = y0.2 ++ (y1.2 ++ (y2.2 ++ (y3.2 ++ (y4.2 ++ (y5.2 ++ (y6.2 ++ (y7.2))))))) ∧
      DataW.trod enc P w base spare held n f0.type [v0] = some y0 ∧ DataW.trod enc P w base spare held n f1.type [v1] = some y1 ∧ DataW.trod enc P w base spare held n f2.type [v2] = some y2 ∧ DataW.trod enc P w base spare held n f3.type [v3] = some y3 ∧ DataW.trod enc P w base spare held n f4.type [v4] = some y4 ∧ DataW.trod enc P w base spare held n f5.type [v5] = some y5 ∧ DataW.trod enc P w base spare held n f6.type [v6] = some y6 ∧ DataW.trod enc P w base spare held n f7.type [v7] = some y7 := by
  obtain ⟨cs, rfl, hsz⟩ := okWide_struct hs hv
  obtain ⟨l⟩ := cs
  match l, hsz.trans hC with
  | [c0, c1, c2, c3, c4, c5, c6, c7], _ =>
    obtain ⟨fuel, hf⟩ := h
    obtain ⟨xs, n, _, hx, _, hlen, hg⟩ := DataW.trod_struct hs hf
    obtain ⟨o0, k0⟩ := hone_of hone 0 f0 rfl
    obtain ⟨o1, k1⟩ := hone_of hone 1 f1 rfl
    obtain ⟨o2, k2⟩ := hone_of hone 2 f2 rfl
    obtain ⟨o3, k3⟩ := hone_of hone 3 f3 rfl
    obtain ⟨o4, k4⟩ := hone_of hone 4 f4 rfl
    obtain ⟨o5, k5⟩ := hone_of hone 5 f5 rfl
    obtain ⟨o6, k6⟩ := hone_of hone 6 f6 rfl
    obtain ⟨o7, k7⟩ := hone_of hone 7 f7 rfl
    match xs, hlen with
    | [y0, y1, y2, y3, y4, y5, y6, y7], _ =>
      simp only [Prod.mk.injEq] at hx
      exact ⟨c0, c1, c2, c3, c4, c5, c6, c7, y0, y1, y2, y3, y4, y5, y6, y7, n, rfl, by simpa using hx.1, by simpa using hx.2, by simpa [Value.cells, o0, k0] using hg 0 f0 rfl, by simpa [Value.cells, o1, k1] using hg 1 f1 rfl, by simpa [Value.cells, o2, k2] using hg 2 f2 rfl, by simpa [Value.cells, o3, k3] using hg 3 f3 rfl, by simpa [Value.cells, o4, k4] using hg 4 f4 rfl, by simpa [Value.cells, o5, k5] using hg 5 f5 rfl, by simpa [Value.cells, o6, k6] using hg 6 f6 rfl, by simpa [Value.cells, o7, k7] using hg 7 f7 rfl⟩
end

/-- what comes in: a command with a body of n bytes -/
structure CmdIn (W : World) (c : CmdN) (a : Option Addr) (n m : Nat) (bs : Nat → Int) : Prop where
  body : BodyAt W a n bs
  small : n ≤ 1048576
  tube : c.tube.size ≤ 1048576
  id : -9223372036854775808 ≤ c.id ∧ c.id ≤ 9223372036854775807
  pri : -9223372036854775808 ≤ c.pri ∧ c.pri ≤ 9223372036854775807
  delay : -9223372036854775808 ≤ c.delay ∧ c.delay ≤ 9223372036854775807
  ttr : -9223372036854775808 ≤ c.ttr ∧ c.ttr ≤ 9223372036854775807
  number : -9223372036854775808 ≤ c.number ∧ c.number ≤ 9223372036854775807
  kind : -9223372036854775808 ≤ c.kind ∧ c.kind ≤ 9223372036854775807

theorem laidOut : laidOutB Tryd.prog = true := by kernel_rfl
theorem readable27 : Tryd.prog.readableRec 27 = true := by kernel_rfl
theorem below27 : 27 < Tryd.prog.types.size := of_decide_eq_true (by kernel_rfl)
theorem trod_int_mk {H : Type} {enc : TypeId × Value → H} {W : World} {n : Nat} {v : Value} {y : DataW H × List MemPlace} (h : DataW.trod enc Tryd.prog W 0 (fun _ => true) true n 3 [v] = some y) :
    ∃ x, v = .int .i64 x ∧ y = (.lit (.int .i64 x), []) ∧ -9223372036854775808 ≤ x ∧ x ≤ 9223372036854775807 := by
  obtain ⟨x, hv, hy, hw⟩ := DataW.trod_int Tryd.underlying3 h
  exact ⟨x, by simpa using hv, hy, bounds_i64 hw⟩

theorem bulk_le {H : Type} {l : List (DataW H)} (hk : Rows.uptoSmall H l = true) : Rows.uptoBulkAll l ≤ 1048576 := of_decide_eq_true hk
theorem bulk_lits {H : Type} (k : IntKind) (zs : List Int) : zs.length ≤ Rows.uptoBulkAll (lits (H := H) k zs) := by
  induction zs with
  | nil => simp
  | cons x r ih =>
    have e : lits (H := H) k (x :: r) = .lit (.int k x) :: lits k r := rfl
    rw [e]
    simp only [Rows.uptoBulkAll, List.length_cons]
    have : 1 ≤ Rows.uptoBulk (DataW.lit (H := H) (.int k x)) := by simp [Rows.uptoBulk]
    omega

set_option maxRecDepth 100000 in
theorem open_cmd {H : Type} {enc : TypeId × Value → H} {W : World} {base : Nat} {v : Value} {d : DataW H} {p : List MemPlace} (hv : Value.okWide Tryd.prog W .any base 27 v)
    (h : DataW.Trod enc Tryd.prog W 0 (fun _ => true) true 27 v d p) (hlt : ∀ x ∈ p, x.block < W.heap.size) (hk : Rows.uptoSmall H [d] = true) :
    ∃ (c : CmdN) (a : Option Addr) (n m : Nat) (bs : Nat → Int), v = .agg (c.cells (.slice a n m)) ∧ CmdIn W c a n m bs := by
  obtain ⟨v0, v1, v2, v3, v4, v5, v6, v7, y0, y1, y2, y3, y4, y5, y6, y7, k, rfl, rfl, rfl, h0, h1, h2, h3, h4, h5, h6, h7⟩ := open_agg8 Tryd.underlying27 (by kernel_rfl) (by kernel_rfl) hv h
  obtain ⟨x0, rfl, rfl, b0, c0⟩ := trod_int_mk h0
  obtain ⟨x1, rfl, rfl, b1, c1⟩ := trod_int_mk h1
  obtain ⟨x2, rfl, rfl, b2, c2⟩ := trod_int_mk h2
  obtain ⟨x3, rfl, rfl, b3, c3⟩ := trod_int_mk h3
  obtain ⟨x4, rfl, rfl, b4, c4⟩ := trod_int_mk h4
  obtain ⟨x5, rfl, rfl, b5, c5⟩ := trod_int_mk h5
  obtain ⟨s, hs, rfl, hsz⟩ := DataW.trod_string Tryd.underlying9 h6
  obtain rfl : v6 = .string s := by simpa using hs
  have hk' := bulk_le hk
  rcases open_ints Tryd.underlying25 Tryd.underlying5 (by kernel_rfl) h7 with ⟨hv7, rfl⟩ | ⟨a, len, cap, zs, hv7, _, hle, hmax, hzl, rfl, hcell, hwf⟩
  · obtain rfl : v7 = .slice none 0 0 := by simpa using hv7
    simp only [Rows.uptoBulkAll, Rows.uptoBulk] at hk'
    have hts : s.data.toList.length = s.size := (Lib.size_eq s).symm
    exact ⟨⟨x0, x1, x2, x3, x4, x5, s⟩, none, 0, 0, fun _ => 0, rfl, .inl rfl, by omega, by simp only; omega, ⟨b1, c1⟩, ⟨b2, c2⟩, ⟨b3, c3⟩, ⟨b4, c4⟩, ⟨b5, c5⟩, ⟨b0, c0⟩⟩
  · obtain rfl : v7 = .slice (some a) len cap := by simpa using hv7
    simp only [Rows.uptoBulkAll, Rows.uptoBulk] at hk'
    have hts : s.data.toList.length = s.size := (Lib.size_eq s).symm
    have hb := bulk_lits (H := H) .u8 (zs.take len)
    simp only [if_true] at hzl
    have hzt : (zs.take len).length = len := by simp; omega
    refine ⟨⟨x0, x1, x2, x3, x4, x5, s⟩, some a, len, cap, fun j => zs.getD j 0, rfl, ?_, by omega, by simp only; omega, ⟨b1, c1⟩, ⟨b2, c2⟩, ⟨b3, c3⟩, ⟨b4, c4⟩, ⟨b5, c5⟩, ⟨b0, c0⟩⟩
    rcases Nat.eq_zero_or_pos len with rfl | hpos
    · exact .inl rfl
    · obtain ⟨b, off, rfl, hc⟩ := ints_at hcell (by omega)
      refine .inr ⟨b, off, rfl, ?_, fun j hj => ?_⟩
      · have := hc 0 (by omega)
        exact World.block_lt_of_cell? _ _ this
      · exact hc j (by omega)
end Go.Proofs.YtlhkelgkkfnfoaaDoor
