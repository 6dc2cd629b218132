/-
  DERIVED: THE SHELF's CONTRACTS AT THIS DUMP, IN PLAIN WORDS (tools/lay-plain.mjs out of 'YtfdplefijefeiaaGreatDoorShelf.lean', which tools/lay-shelf.mjs wrote): THE SAME DECLARATIONS UNDER THE SAME NAMES: 'import', 'namespace', 'open', 'def', 'theorem' AND NOTHING ELSE: no command of the shelf's: FOR A HAND-IN. Each laying: the table of numbers ('.._ren') and one theorem, a field a fact of the dump's own or the kernel's comparison; each contract: ONE APPLICATION.
-/
import Derived.Shelf.LaysM
import Derived.Shelf.Bytes.SlIndexWhole
import Derived.Test.YtfdplefijefeiaaGreatDoorProg
namespace Go.Proofs
open Go.Shelf
def Tryz.lays185_ren : Go.Shelf.Ren := ⟨fun | 185 => 152 | 187 => 192 | 115 => 165 | 253 => 193 | 224 => 194 | 254 => 195 | 255 => 231 | 291 => 232 | n => n, fun | 37 => 23 | 3 => 3 | 4 => 4 | 0 => 0 | 5 => 5 | 46 => 356 | 9 => 9 | 146 => 396 | 51 => 380 | n => n, fun | 1 => 12 | n => n⟩
theorem Tryz.lays185 : Go.Proofs.Lays.n185 Tryz.prog Tryz.lays185_ren := {
  mixed := by kernel_rfl
  f115 := Tryz.func165.trans (congrArg some (by kernel_rfl))
  f185 := Tryz.func152.trans (congrArg some (by kernel_rfl))
  f187 := Tryz.func192.trans (congrArg some (by kernel_rfl))
  f224 := Tryz.func194.trans (congrArg some (by kernel_rfl))
  f253 := Tryz.func193.trans (congrArg some (by kernel_rfl))
  f254 := Tryz.func195.trans (congrArg some (by kernel_rfl))
  f255 := Tryz.func231.trans (congrArg some (by kernel_rfl))
  f291 := Tryz.func232.trans (congrArg some (by kernel_rfl))
  t0 := Tryz.underlying0
  a0 := Tryz.isAgg0
  z0 := Tryz.sizeOf0
  v0 := Tryz.zeroValue0
  t3 := Tryz.underlying3
  a3 := Tryz.isAgg3
  z3 := Tryz.sizeOf3
  v3 := Tryz.zeroValue3
  t4 := Tryz.underlying4
  a4 := Tryz.isAgg4
  z4 := Tryz.sizeOf4
  v4 := Tryz.zeroValue4
  t5 := Tryz.underlying5
  a5 := Tryz.isAgg5
  z5 := Tryz.sizeOf5
  v5 := Tryz.zeroValue5
  t9 := Tryz.underlying9
  a9 := Tryz.isAgg9
  z9 := Tryz.sizeOf9
  v9 := Tryz.zeroValue9
  t37 := Tryz.underlying23
  a37 := Tryz.isAgg23
  z37 := Tryz.sizeOf23
  v37 := Tryz.zeroValue23
  t46 := Tryz.underlying356
  a46 := Tryz.isAgg356
  z46 := Tryz.sizeOf356
  v46 := Tryz.zeroValue356
  t51 := Tryz.underlying380
  a51 := Tryz.isAgg380
  z51 := Tryz.sizeOf380
  v51 := Tryz.zeroValue380
  t146 := Tryz.underlying396
  a146 := Tryz.isAgg396
  z146 := Tryz.sizeOf396
  v146 := Tryz.zeroValue396
  g1 := by kernel_rfl }
open Go.Proofs Go.RowKit Go.Lib in
/-- bytes.Index where s is nil: 0 at a separator of no byte, else -1. (LAID: no walk: one application.) -/
theorem Tryz.bytes_Index_nil (p2 : Option Addr) (k c2 : Nat) (w : World) (hk : k ≤ 9223372036854775807) (h1 : k = 1 → ∃ b2 o2 cv, p2 = some ⟨b2, o2, none⟩ ∧ w.cell? ⟨b2, o2, none⟩ = some (.int .u8 cv)) :
    Calls Tryz.prog 152 #[.slice none 0 0, .slice p2 k c2] w fun e w' => e = .returned (.int .i64 (if k = 0 then 0 else -1)) ∧ w' = w := Any.bytes_Index_nil Tryz.lays185 p2 k c2 w hk h1
def Tryz.laysM185_ren : Go.Shelf.Ren := ⟨fun | 185 => 152 | 187 => 192 | 115 => 165 | 253 => 193 | 224 => 194 | 254 => 195 | 255 => 231 | 291 => 232 | n => n, fun | 37 => 23 | 3 => 3 | 4 => 4 | 0 => 0 | 5 => 5 | 46 => 356 | 9 => 9 | 146 => 396 | 51 => 380 | n => n, fun | 1 => 12 | n => n⟩
theorem Tryz.laysM185 : Go.Proofs.LaysM.n185 Tryz.prog Tryz.laysM185_ren := {
  mixed := by kernel_rfl
  f115 := Tryz.func165.trans (congrArg some (by kernel_rfl))
  f185 := Tryz.func152.trans (congrArg some (by kernel_rfl))
  f187 := Tryz.func192.trans (congrArg some (by kernel_rfl))
  f224 := Tryz.func194.trans (congrArg some (by kernel_rfl))
  f253 := Tryz.func193.trans (congrArg some (by kernel_rfl))
  f254 := Tryz.func195.trans (congrArg some (by kernel_rfl))
  f255 := Tryz.func231.trans (congrArg some (by kernel_rfl))
  f291 := Tryz.func232.trans (congrArg some (by kernel_rfl))
  t0 := Tryz.underlying0
  a0 := Tryz.isAgg0
  z0 := Tryz.sizeOf0
  v0 := Tryz.zeroValue0
  t3 := Tryz.underlying3
  a3 := Tryz.isAgg3
  z3 := Tryz.sizeOf3
  v3 := Tryz.zeroValue3
  t4 := Tryz.underlying4
  a4 := Tryz.isAgg4
  z4 := Tryz.sizeOf4
  v4 := Tryz.zeroValue4
  t5 := Tryz.underlying5
  a5 := Tryz.isAgg5
  z5 := Tryz.sizeOf5
  v5 := Tryz.zeroValue5
  t9 := Tryz.underlying9
  a9 := Tryz.isAgg9
  z9 := Tryz.sizeOf9
  v9 := Tryz.zeroValue9
  t37 := Tryz.underlying23
  a37 := Tryz.isAgg23
  z37 := Tryz.sizeOf23
  v37 := Tryz.zeroValue23
  t46 := Tryz.underlying356
  a46 := Tryz.isAgg356
  z46 := Tryz.sizeOf356
  v46 := Tryz.zeroValue356
  t51 := Tryz.underlying380
  a51 := Tryz.isAgg380
  z51 := Tryz.sizeOf380
  v51 := Tryz.zeroValue380
  t146 := Tryz.underlying396
  a146 := Tryz.isAgg396
  z146 := Tryz.sizeOf396
  v146 := Tryz.zeroValue396
  g1 := by kernel_rfl
  i0 := by kernel_rfl
  i3 := by kernel_rfl
  i4 := by kernel_rfl
  i5 := by kernel_rfl
  i9 := by kernel_rfl
  i37 := by kernel_rfl
  i46 := by kernel_rfl
  i51 := by kernel_rfl
  i146 := by kernel_rfl
  m1 := by kernel_rfl
  s1_3 := fun w h => Go.Proofs.cell_of_shapedOpen_int (zero := #[.int .i64 0]) (t := 3) h (of_decide_eq_true (by kernel_rfl)) (by kernel_rfl) rfl (by kernel_rfl) (by kernel_rfl) Tryz.underlying3 }
open Go.Proofs Go.RowKit Go.Lib in
/-- .. AT A ROW's OWN FIRST WORLD: 'World.ShapedOpen P' in the place of the word on internal/bytealg.MaxLen's cell (after a hand of the authors' house's Derived/Shelf/Strings/Shaped.lean). ✋ BEHIND AN ALLOCATION (a separator typed as '[]byte("..")') the world is the first no more: take 'let ⟨m, hm⟩ := L.s1_3 W h' at the first world and carry the cell over ('Lib.cell?_alloc_marked'), then the form above. (LAID: no walk: one application.) -/
theorem Tryz.bytes_Index_at_shaped (a1 a2 : Addr) (n c1 k c2 : Nat) (xs ys : List Int) (w : World) (hx : xs.length = n) (hy : ys.length = k) (hr1 : ∀ x ∈ xs, 0 ≤ x ∧ x < 256) (hr2 : ∀ y ∈ ys, 0 ≤ y ∧ y < 256) (hc1 : ∀ i, i < n → w.cell? (a1.add i) = some (.int .u8 (xs.getD i 0))) (hc2 : ∀ i, i < k → w.cell? (a2.add i) = some (.int .u8 (ys.getD i 0))) (hcap : n ≤ c1) (hs : n < 4294967281) (hk : k ≤ 9223372036854775807) (h : w.ShapedOpen Tryz.prog) :
    Calls Tryz.prog 152 #[.slice (some a1) n c1, .slice (some a2) k c2] w fun e w' => e = .returned (.int .i64 (Lib.index (Lib.bytesOf xs) (Lib.bytesOf ys))) ∧ ∃ q, w' = w.drewN q := Any.bytes_Index_at_shaped Tryz.laysM185 a1 a2 n c1 k c2 xs ys w hx hy hr1 hr2 hc1 hc2 hcap hs hk h
end Go.Proofs
