/- What the rows' lists give to the contracts; a world for the witnesses. -/
import Derived.Test.YtlhkelgkkfnfoaaDoorCards
import Derived.Test.YtlhkelgkkfnfoaaDoorTie
import Derived.Test.YtlhkelgkkfnfoaaDoorAd
import Derived.Test.YtlhkelgkkfnfoaaDoorB1
import Derived.ProofKit
import Derived.OpenShut
import Derived.Deep.DeepHandedRow
import Derived.Lib.LaidTab
import Derived.Lay
namespace Go.Proofs.YtlhkelgkkfnfoaaDoor
open Go.ChangeShapes Go.WideShapes Go.ChangeAt Go.RowKit

theorem laid_tail {P : Program} {x : String × DataW Unit} {l : List (String × DataW Unit)} {W : World} (h : laidMet P (x :: l) W) : laidMet P l W := by
  obtain ⟨ps, hv, hn, hc⟩ := h
  obtain ⟨n, d⟩ := x
  obtain ⟨g, t, cs, fuel, p, q, -, -, -, -, hr, rfl⟩ := hv
  exact ⟨q, hr, (List.nodup_append.1 hn).2.1, fun b off hb => hc b off (List.mem_append.2 (.inr hb))⟩

/-- the list of every row of this seat -/
def laidAll : List (String × DataW Unit) := [("math/bits.deBruijn32tab", Rows.laid_math_bits_deBruijn32tab), ("math/bits.deBruijn64tab", Rows.laid_math_bits_deBruijn64tab), ("internal/strconv.uint64pow10", Rows.laid_internal_strconv_uint64pow10), ("unicode/utf8.acceptRanges", Rows.laid_unicode_utf8_acceptRanges), ("unicode/utf8.first", Rows.laid_unicode_utf8_first)]
theorem laid_plain (W : World) : laidMetH Tryd.prog laidAll W = laidMet Tryd.prog laidAll W := MakeChecks.laidMetH_plain _ _ _ (by kernel_rfl)
theorem pow_data : Rows.laid_internal_strconv_uint64pow10 (H := Unit) = Lib.tabData .u64 Lib.pow10Tab := by kernel_rfl
theorem good_of_laid {W : World} (h : laidMetH Tryd.prog laidAll W) (hs : W.ShapedOpen Tryd.prog) : Good W := by
  rw [laid_plain] at h
  have h' := laid_tail (laid_tail h)
  rw [pow_data] at h'
  exact ⟨hs, Lib.tabBelow_of_tabIs (Lib.tabIs_of_head (g := 1) (t := 108) (e := 99) (n := 20) (by kernel_rfl) (by kernel_rfl) Tryd.underlying108 Tryd.underlying99 (by kernel_rfl) (by kernel_rfl) h')⟩
theorem own : ownKnob Tryd.prog.godebug = none := by kernel_rfl
/-- a world for a witness: the listed variables hold what they are listed with -/
noncomputable def laidWorld (os : Os) : World := World.laidAll Tryd.prog os laidAll
theorem laid_met (os : Os) (args : Array Value) : laidMet Tryd.prog laidAll ((laidWorld os).forCall (fun _ _ => 0) { blocks := #[], args := args }).memory :=
  laidMet_laidAll args (by kernel_rfl) (by kernel_rfl)
end Go.Proofs.YtlhkelgkkfnfoaaDoor
