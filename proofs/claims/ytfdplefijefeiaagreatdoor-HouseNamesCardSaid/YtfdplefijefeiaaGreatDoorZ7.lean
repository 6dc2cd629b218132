/- D: arithmetic, strings. -/
import Derived.Test.YtfdplefijefeiaaGreatDoorZ6
import Derived.Lib.Bytealg
namespace Go.Dx
open Go

theorem wrap_in (k : IntKind) (n : Int) (h0 : (if k.signed then -(2 ^ (k.bits - 1) : Int) else 0) ≤ n) (h1 : n ≤ (if k.signed then (2 ^ (k.bits - 1) : Int) - 1 else (2 ^ k.bits : Int) - 1)) : k.wrap n = n := by
  unfold IntKind.wrap
  cases k <;> simp [IntKind.signed, IntKind.bits] at h0 h1 ⊢ <;> (try split) <;> omega
theorem wrapD_eq (k : IntKind) (n : Int) : wrapD k n = k.wrap n := by
  cases k <;> simp only [wrapD]
  all_goals
    split
    · next hh => exact (wrap_in _ n (by simp [IntKind.signed, IntKind.bits]; omega) (by simp [IntKind.signed, IntKind.bits]; omega)).symm
    · rfl
theorem bytesEq_eq : ∀ (a b : List UInt8), bytesEq a b = (a == b)
  | [], [] => rfl
  | [], _ :: _ => rfl
  | _ :: _, [] => rfl
  | a :: x, b :: y => by
    rw [bytesEq, bytesEq_eq x y]
    have : (a.toNat == b.toNat) = (a == b) := by
      by_cases h : a = b
      · subst h; simp
      · have : ¬ a.toNat = b.toNat := fun e => h (UInt8.toNat_inj.1 e)
        rw [beq_false_of_ne h, beq_false_of_ne this]
    rw [this]
    rfl
theorem bytesLt_eq : ∀ (a b : List UInt8), bytesLt a b = Op.bytesLess a b
  | [], [] => rfl
  | _ :: _, [] => rfl
  | [], _ :: _ => rfl
  | a :: x, b :: y => by
    rw [bytesLt, Op.bytesLess, bytesLt_eq x y]
    by_cases h1 : a.toNat < b.toNat
    · rw [if_pos h1]
      have : a < b := h1
      simp [this]
    · rw [if_neg h1]
      have h1' : ¬ a < b := h1
      by_cases h2 : a.toNat = b.toNat
      · rw [if_pos h2, UInt8.toNat_inj.1 h2]
        simp
      · rw [if_neg h2]
        have : ¬ a = b := fun e => h2 (by rw [e])
        simp [h1', this]
theorem less_total : ∀ (a b : List UInt8), (!bytesLt b a) = (bytesLt a b || bytesEq a b)
  | [], [] => rfl
  | _ :: _, [] => rfl
  | [], _ :: _ => rfl
  | a :: x, b :: y => by
    rw [bytesLt, bytesLt, bytesEq]
    by_cases h1 : a.toNat < b.toNat
    · rw [if_neg (by omega), if_neg (by omega), if_pos h1]; rfl
    · by_cases h2 : b.toNat < a.toNat
      · rw [if_pos h2, if_neg h1, if_neg (by omega)]
        have : (a.toNat == b.toNat) = false := beq_false_of_ne (by omega)
        rw [this]; rfl
      · have e : a.toNat = b.toNat := by omega
        rw [if_neg h2, if_pos e.symm, if_neg h1, if_pos e, less_total x y]
        have : (a.toNat == b.toNat) = true := by rw [e]; simp
        rw [this]; simp
theorem size_list (s : List UInt8) : (⟨s.toArray⟩ : ByteArray).size = s.length := by simp [ByteArray.size]
theorem toList_list (s : List UInt8) : (⟨s.toArray⟩ : ByteArray).toList = s := by rw [ByteArray.toList_eq]

section
variable {P : Program} {e : Env} {t : Fr} {a : Act} {h : DHeap} {w : World} {o : Oper} {D : DProg} {nx : Nx}

/-- numbers, strings and bools -/
theorem bin_run {op : BinOp} {x y v : DV} {vx vy : Value} {T : TypeId} (hx : val e x = some vx) (hy : val e y = some vy) (hb : binD op x y = some v) :
    ∃ rv, (binOp op T vx vy).run P w = .ok rv w ∧ val e v = some rv := by
  cases x with
  | int k m =>
    cases y with
    | int k' n =>
      simp only [val, Option.some.injEq] at hx hy
      subst hx; subst hy
      simp only [binD] at hb
      by_cases hsh : op = .shl
      · subst hsh
        simp only at hb
        split at hb
        · cases hb
        · next hn => cases hb; exact ⟨_, by simp [binOp, Op.shift, hn], rfl⟩
      by_cases hsr : op = .shr
      · subst hsr
        simp only at hb
        split at hb
        · cases hb
        · next hn => cases hb; exact ⟨_, by simp [binOp, Op.shift, hn], rfl⟩
      by_cases hk : k = k'
      · subst hk
        cases op
        case shl => exact absurd rfl hsh
        case shr => exact absurd rfl hsr
        case quo =>
          simp only [ne_eq, not_true_eq_false, if_false] at hb
          split at hb
          · cases hb
          · next hn => cases hb; exact ⟨.int k (k.wrap (m.tdiv n)), by simp [binOp, Op.intDiv, hn], by simp [val, wrapD_eq]⟩
        case rem =>
          simp only [ne_eq, not_true_eq_false, if_false] at hb
          split at hb
          · cases hb
          · next hn => cases hb; exact ⟨.int k (m.tmod n), by simp [binOp, Op.intDiv, hn], rfl⟩
        case add =>
          simp only [ne_eq, not_true_eq_false, if_false, Option.some.injEq] at hb
          subst hb
          exact ⟨.int k (k.wrap (m + n)), by simp only [binOp, ne_eq, not_true_eq_false, if_false, Op.intArith, Op.intBits, Op.intCmp]; rfl, by simp only [val, wrapD_eq]⟩
        case sub =>
          simp only [ne_eq, not_true_eq_false, if_false, Option.some.injEq] at hb
          subst hb
          exact ⟨.int k (k.wrap (m - n)), by simp only [binOp, ne_eq, not_true_eq_false, if_false, Op.intArith, Op.intBits, Op.intCmp]; rfl, by simp only [val, wrapD_eq]⟩
        case mul =>
          simp only [ne_eq, not_true_eq_false, if_false, Option.some.injEq] at hb
          subst hb
          exact ⟨.int k (k.wrap (m * n)), by simp only [binOp, ne_eq, not_true_eq_false, if_false, Op.intArith, Op.intBits, Op.intCmp]; rfl, by simp only [val, wrapD_eq]⟩
        case and =>
          simp only [ne_eq, not_true_eq_false, if_false, Option.some.injEq] at hb
          subst hb
          exact ⟨.int k (k.wrap (BitVec.ofInt k.bits m &&& BitVec.ofInt k.bits n).toNat), by simp only [binOp, ne_eq, not_true_eq_false, if_false, Op.intArith, Op.intBits, Op.intCmp]; rfl, rfl⟩
        case or =>
          simp only [ne_eq, not_true_eq_false, if_false, Option.some.injEq] at hb
          subst hb
          exact ⟨.int k (k.wrap (BitVec.ofInt k.bits m ||| BitVec.ofInt k.bits n).toNat), by simp only [binOp, ne_eq, not_true_eq_false, if_false, Op.intArith, Op.intBits, Op.intCmp]; rfl, rfl⟩
        case xor =>
          simp only [ne_eq, not_true_eq_false, if_false, Option.some.injEq] at hb
          subst hb
          exact ⟨.int k (k.wrap (BitVec.ofInt k.bits m ^^^ BitVec.ofInt k.bits n).toNat), by simp only [binOp, ne_eq, not_true_eq_false, if_false, Op.intArith, Op.intBits, Op.intCmp]; rfl, rfl⟩
        case andNot =>
          simp only [ne_eq, not_true_eq_false, if_false, Option.some.injEq] at hb
          subst hb
          exact ⟨.int k (k.wrap (BitVec.ofInt k.bits m &&& ~~~ BitVec.ofInt k.bits n).toNat), by simp only [binOp, ne_eq, not_true_eq_false, if_false, Op.intArith, Op.intBits, Op.intCmp]; rfl, rfl⟩
        case eql =>
          simp only [ne_eq, not_true_eq_false, if_false, Option.some.injEq] at hb
          subst hb
          exact ⟨.bool (m == n), by simp only [binOp, ne_eq, not_true_eq_false, if_false, Op.intArith, Op.intBits, Op.intCmp]; rfl, by simp [val, bne]; rfl⟩
        case neq =>
          simp only [ne_eq, not_true_eq_false, if_false, Option.some.injEq] at hb
          subst hb
          exact ⟨.bool (m != n), by simp only [binOp, ne_eq, not_true_eq_false, if_false, Op.intArith, Op.intBits, Op.intCmp]; rfl, by simp [val, bne]; rfl⟩
        case lss =>
          simp only [ne_eq, not_true_eq_false, if_false, Option.some.injEq] at hb
          subst hb
          exact ⟨.bool (decide (m < n)), by simp only [binOp, ne_eq, not_true_eq_false, if_false, Op.intArith, Op.intBits, Op.intCmp]; rfl, rfl⟩
        case leq =>
          simp only [ne_eq, not_true_eq_false, if_false, Option.some.injEq] at hb
          subst hb
          exact ⟨.bool (decide (m ≤ n)), by simp only [binOp, ne_eq, not_true_eq_false, if_false, Op.intArith, Op.intBits, Op.intCmp]; rfl, rfl⟩
        case gtr =>
          simp only [ne_eq, not_true_eq_false, if_false, Option.some.injEq] at hb
          subst hb
          exact ⟨.bool (decide (m > n)), by simp only [binOp, ne_eq, not_true_eq_false, if_false, Op.intArith, Op.intBits, Op.intCmp]; rfl, rfl⟩
        case geq =>
          simp only [ne_eq, not_true_eq_false, if_false, Option.some.injEq] at hb
          subst hb
          exact ⟨.bool (decide (m ≥ n)), by simp only [binOp, ne_eq, not_true_eq_false, if_false, Op.intArith, Op.intBits, Op.intCmp]; rfl, rfl⟩
      · exfalso
        cases op <;> first | exact hsh rfl | exact hsr rfl | simp [hk] at hb
    | _ => simp [binD] at hb
  | str m =>
    cases y with
    | str n =>
      simp only [val, Option.some.injEq] at hx hy
      subst hx; subst hy
      simp only [binD] at hb
      have he : ((⟨m.toArray⟩ : ByteArray).toList == (⟨n.toArray⟩ : ByteArray).toList) = bytesEq m n := by rw [toList_list, toList_list, bytesEq_eq]
      have hl : Op.bytesLess (⟨m.toArray⟩ : ByteArray).toList (⟨n.toArray⟩ : ByteArray).toList = bytesLt m n := by rw [toList_list, toList_list, bytesLt_eq]
      cases op <;> simp only [Option.some.injEq, reduceCtorEq] at hb
      case add =>
        split at hb
        · next hle =>
          cases hb
          refine ⟨.string (⟨m.toArray⟩ ++ ⟨n.toArray⟩), ?_, ?_⟩
          · simp only [binOp, Op.stringOp, size_list]
            rw [if_neg (by simp [IntKind.max, IntKind.bits, IntKind.signed]; omega)]
            rfl
          · simp only [val, Option.some.injEq, Value.string.injEq]
            apply ByteArray.ext
            simp
        · cases hb
      case eql => subst hb; exact ⟨.bool (bytesEq m n), by simp only [binOp, Op.stringOp, he]; rfl, rfl⟩
      case neq => subst hb; exact ⟨.bool (!bytesEq m n), by simp only [binOp, Op.stringOp, he]; rfl, rfl⟩
      case lss => subst hb; exact ⟨.bool (bytesLt m n), by simp only [binOp, Op.stringOp, hl]; rfl, rfl⟩
      case leq => subst hb; exact ⟨.bool (bytesLt m n || bytesEq m n), by simp only [binOp, Op.stringOp, hl, he]; rfl, by simp only [val, less_total]⟩
      case gtr => subst hb; exact ⟨.bool (!(bytesLt m n || bytesEq m n)), by simp only [binOp, Op.stringOp, hl, he]; rfl, by simp only [val, ← less_total, Bool.not_not]⟩
      case geq => subst hb; exact ⟨.bool (!bytesLt m n), by simp only [binOp, Op.stringOp, hl]; rfl, rfl⟩
    | _ => simp [binD] at hb
  | _ => simp [binD] at hb
theorem ok_bin {op : BinOp} {x y : Operand} {T T' : TypeId} (hg : Glob P e) (hf : FrR e t a.tmps) (r : Rep e h w) (ho : o.op = .binOp op T x y T') {x' y' : Opd} (hx : opdD P x = some x') (hy : opdD P y = some y') (hn : opD D t h (.bin op x' y') = some nx) : NxOk P e h w (execOp a.eval o) nx := by
  have vx := opd_ok hg hf hx
  have vy := opd_ok hg hf hy
  simp only [opD] at hn
  split at hn
  · next v hb =>
    cases hn
    obtain ⟨rv, h1, h2⟩ := bin_run (P := P) (w := w) (T := T) vx vy hb
    refine .pure r ?_ h2
    have hgd : (eqGuard op T x y (a.eval x) (a.eval y)).run P w = .ok () w := by
      unfold eqGuard
      cases hvx : x'.ev t <;> rw [hvx] at vx hb <;> cases hvy : y'.ev t <;> rw [hvy] at vy hb <;> simp [binD] at hb
      all_goals
        simp only [val, Option.some.injEq] at vx vy
        rw [← vx, ← vy]
        cases op <;> rfl
    simp [execOp, ho, Sem.run_bind, hgd, h1]
  · cases hn
end
end Go.Dx
