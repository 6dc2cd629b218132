/- D: slices of slices, aggregates. -/
import Derived.Test.YtfdplefijefeiaaGreatDoorZb
namespace Go.Dx
open Go

section
variable {P : Program} {e : Env} {t : Fr} {a : Act} {h : DHeap} {w : World} {o : Oper} {D : DProg} {nx : Nx}

theorem ok_sliceSl {T el : TypeId} {x : Operand} {lo hi : Option Operand} {n : Nat} (hg : Glob P e) (hf : FrR e t a.tmps) (r : Rep e h w) (ho : o.op = .slice T x lo hi none) (hT : P.underlying T = some (.slice el)) (hs : sizeT P el = some n)
    {x' : Opd} {lo' hi' : Option Opd} (hx : opdD P x = some x') (hlo : opdO P lo = some lo') (hhi : opdO P hi = some hi') (hn : opD D t h (.sliceSl n x' lo' hi' none) = some nx) : NxOk P e h w (execOp a.eval o) nx := by
  have vx := opd_ok hg hf hx
  simp only [opD, Option.map_none] at hn
  split at hn
  · next hb =>
    rw [hb] at vx
    simp only [val, Option.some.injEq] at vx
    split at hn
    · next q hbd =>
      cases hn
      obtain ⟨l, u, m⟩ := q
      obtain ⟨hm, h1, h2, h3⟩ := bounds_ok (P := P) (w := w) (a := a) (isS := true) (lo_ok hg hf hlo).1 (lo_ok hg hf hlo).2 (lo_ok hg hf hhi).1 (lo_ok hg hf hhi).2 hbd 0 (Nat.le_refl _)
      obtain rfl : u = 0 := by omega
      obtain rfl : l = 0 := by omega
      refine .pure r (rv := .slice none 0 0) ?_ rfl
      simp [execOp, ho, ← vx, Instr.sliceAt, Instr.slice, Sem.run_bind, run_underlying hT, h3, run_sizeT hs]
    · cases hn
  · next b o' z len cap tg hb =>
    rw [hb] at vx
    obtain ⟨y, hy, hv⟩ := slice_val vx
    split at hn
    · next l u m hbd =>
      simp only [Option.isSome_none, Bool.false_eq_true, if_false, Option.some.injEq] at hn
      subst hn
      obtain ⟨c, hc⟩ : ∃ c, c = (if tg = true then cap else cap + y.sp) := ⟨_, rfl⟩
      rw [← hc] at hv
      have hcc : cap ≤ c := by rw [hc]; split <;> omega
      obtain ⟨hm, h1, h2, h3⟩ := bounds_ok (P := P) (w := w) (a := a) (isS := true) (lo_ok hg hf hlo).1 (lo_ok hg hf hlo).2 (lo_ok hg hf hhi).1 (lo_ok hg hf hhi).2 hbd c hcc
      subst hm
      have hc' : (if tg = true then m - l else m - l + y.sp) = c - l := by rw [hc]; split <;> omega
      refine .pure r (rv := .slice (if c = l then some ⟨y.blk, y.base + (if c = 0 then z else o'), none⟩ else some ((⟨y.blk, y.base + (if c = 0 then z else o'), none⟩ : Addr).add (l * n))) (u - l) (c - l)) ?_ ?_
      · simp [execOp, ho, hv, Instr.sliceAt, Instr.slice, Sem.run_bind, run_underlying hT, h3, run_sizeT hs]
      · simp only [val, hy, hc', Option.some.injEq, Value.slice.injEq, and_true]
        by_cases hcl : c = l
        · rw [if_pos (by omega), if_pos hcl]
          by_cases hm0 : m = 0
          · rw [if_pos hm0]
            have hc0 : c = 0 := by omega
            rw [if_pos hc0]
          · rw [if_neg hm0, if_neg (by omega)]
        · rw [if_neg (by omega), if_neg hcl, if_neg (by omega), Addr.add_mid, Nat.add_assoc]
    · cases hn
  · cases hn
theorem ok_slice3 {T el : TypeId} {x hi mx : Operand} {lo : Option Operand} {n : Nat} (hg : Glob P e) (hf : FrR e t a.tmps) (r : Rep e h w) (ho : o.op = .slice T x lo (some hi) (some mx)) (hT : P.underlying T = some (.slice el)) (hs : sizeT P el = some n)
    {x' hi' mx' : Opd} {lo' : Option Opd} (hx : opdD P x = some x') (hlo : opdO P lo = some lo') (hhi : opdD P hi = some hi') (hmx : opdD P mx = some mx') (hn : opD D t h (.sliceSl n x' lo' (some hi') (some mx')) = some nx) : NxOk P e h w (execOp a.eval o) nx := by
  have vx := opd_ok hg hf hx
  simp only [opD, Option.map_some] at hn
  split at hn
  · next hb =>
    rw [hb] at vx
    simp only [val, Option.some.injEq] at vx
    split at hn
    · next q hbd =>
      cases hn
      obtain ⟨l, u, m⟩ := q
      obtain ⟨hm, h1, h2, h3⟩ := bounds3_ok (P := P) (w := w) (a := a) (isS := true) (lo_ok hg hf hlo).1 (lo_ok hg hf hlo).2 (opd_ok hg hf hhi) (opd_ok hg hf hmx) hbd 0 (Nat.le_refl _)
      obtain rfl : m = 0 := by omega
      obtain rfl : u = 0 := by omega
      obtain rfl : l = 0 := by omega
      refine .pure r (rv := .slice none 0 0) ?_ rfl
      simp [execOp, ho, ← vx, Instr.sliceAt, Instr.slice, Sem.run_bind, run_underlying hT, h3, run_sizeT hs]
    · cases hn
  · next b o' z len cap tg hb =>
    rw [hb] at vx
    obtain ⟨y, hy, hv⟩ := slice_val vx
    split at hn
    · next l u m hbd =>
      simp only [Option.isSome_some, if_true] at hn
      split at hn
      · next hct =>
        simp only [Option.some.injEq] at hn
        subst hn
        have hct : cap = 0 ∧ tg = false := by simpa using hct
        obtain ⟨hc0, htg⟩ := hct
        subst hc0 htg
        simp only [Bool.false_eq_true, if_false, Nat.zero_add] at hv
        obtain ⟨hm, h1, h2, h3⟩ := bounds3_ok (P := P) (w := w) (a := a) (isS := true) (lo_ok hg hf hlo).1 (lo_ok hg hf hlo).2 (opd_ok hg hf hhi) (opd_ok hg hf hmx) hbd y.sp (Nat.zero_le _)
        obtain rfl : m = 0 := by omega
        obtain rfl : u = 0 := by omega
        obtain rfl : l = 0 := by omega
        refine .pure r (rv := .slice (some ⟨y.blk, y.base + (if y.sp = 0 then z else o'), none⟩) 0 0) ?_ (by simp only [val, hy])
        simp [execOp, ho, hv, Instr.sliceAt, Instr.slice, Sem.run_bind, run_underlying hT, h3, run_sizeT hs]
      · next hct =>
        simp only [Option.some.injEq] at hn
        subst hn
        obtain ⟨c, hc⟩ : ∃ c, c = (if tg = true then cap else cap + y.sp) := ⟨_, rfl⟩
        rw [← hc] at hv
        have hcc : cap ≤ c := by rw [hc]; split <;> omega
        have hc0 : cap = 0 → c = 0 := fun h0 => by
          rw [hc]
          cases tg with
          | true => exact h0
          | false => exact absurd (by simp [h0]) hct
        obtain ⟨hm, h1, h2, h3⟩ := bounds3_ok (P := P) (w := w) (a := a) (isS := true) (lo_ok hg hf hlo).1 (lo_ok hg hf hlo).2 (opd_ok hg hf hhi) (opd_ok hg hf hmx) hbd c hcc
        refine .pure r (rv := .slice (if m = l then some ⟨y.blk, y.base + (if c = 0 then z else o'), none⟩ else some ((⟨y.blk, y.base + (if c = 0 then z else o'), none⟩ : Addr).add (l * n))) (u - l) (m - l)) ?_ ?_
        · simp [execOp, ho, hv, Instr.sliceAt, Instr.slice, Sem.run_bind, run_underlying hT, h3, run_sizeT hs]
        · simp only [val, hy, if_true, Option.some.injEq, Value.slice.injEq, and_true]
          by_cases hcl : m = l
          · rw [if_pos (by omega), if_pos hcl]
            by_cases hm0 : cap = 0
            · rw [if_pos hm0, if_pos (hc0 hm0)]
            · rw [if_neg hm0, if_neg (by omega)]
          · rw [if_neg (by omega), if_neg hcl, if_neg (by omega), Addr.add_mid, Nat.add_assoc]
    · cases hn
  · cases hn
end
end Go.Dx
