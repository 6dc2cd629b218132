/- The evaluator, part 4. -/
import Derived.Test.YtfdplefijefeiaaGreatDoorZ3
import Derived.IntWalk
import Derived.Lib.Bytealg
import Derived.Laws.NewBlocks
/- D: operations that only compute. -/
namespace Go.Dx
open Go

/-- an own step stands for the model's -/
def NxOk (P : Program) (e : Env) (h : DHeap) (w : World) (s : Sem Next) : Nx → Prop
  | .same v => ∃ rv, s.run P w = .ok (.value rv) w ∧ val e v = some rv
  | .val v h' => ∃ e' w', Step e h w e' h' w' ∧ ((∃ rv, s.run P w = .ok (.value rv) w' ∧ val e' v = some rv) ∨ (s.run P w = .ok .skip w' ∧ v = undefD))
  | .call f args h' => h' = h ∧ ∃ rargs, s.run P w = (callFunc f rargs).run P w ∧ vals e args = some rargs.toList
theorem NxOk.pure {P : Program} {e : Env} {h : DHeap} {w : World} {s : Sem Next} {v : DV} {rv : Value} (r : Rep e h w) (hr : s.run P w = .ok (.value rv) w) (hv : val e v = some rv) : NxOk P e h w s (.same v) :=
  ⟨rv, hr, hv⟩

section
variable {P : Program} {e : Env} {t : Fr} {a : Act} {h : DHeap} {w : World} {o : Oper} {D : DProg} {nx : Nx}

theorem ok_move {x : Operand} (hg : Glob P e) (hf : FrR e t a.tmps) (r : Rep e h w) (ho : o.op = .move x ∨ o.op = .assign x) {y : Opd} (hx : opdD P x = some y) (hn : opD D t h (.mov y) = some nx) : NxOk P e h w (execOp a.eval o) nx := by
  simp only [opD, Option.some.injEq] at hn
  subst hn
  refine .pure r ?_ (opd_ok hg hf hx)
  rcases ho with ho | ho <;> simp [execOp, ho]
theorem ok_pick {c x y : Operand} (hg : Glob P e) (hf : FrR e t a.tmps) (r : Rep e h w) (ho : o.op = .pick c x y) {c' x' y' : Opd} (hc : opdD P c = some c') (hx : opdD P x = some x') (hy : opdD P y = some y') (hn : opD D t h (.pick c' x' y') = some nx) : NxOk P e h w (execOp a.eval o) nx := by
  have vc := opd_ok hg hf hc
  have vx := opd_ok hg hf hx
  have vy := opd_ok hg hf hy
  simp only [opD] at hn
  split at hn
  · next hb =>
    cases hn
    rw [hb] at vc
    refine .pure r ?_ vx
    simp only [val, Option.some.injEq] at vc
    simp [execOp, ho, ← vc, asBool]
  · next hb =>
    cases hn
    rw [hb] at vc
    refine .pure r ?_ vy
    simp only [val, Option.some.injEq] at vc
    simp [execOp, ho, ← vc, asBool]
  · cases hn
theorem ok_extract {x : Operand} {i : Nat} (hg : Glob P e) (hf : FrR e t a.tmps) (r : Rep e h w) (ho : o.op = .extract x i) {y : Opd} (hx : opdD P x = some y) (hn : opD D t h (.extract y i) = some nx) : NxOk P e h w (execOp a.eval o) nx := by
  have vx := opd_ok hg hf hx
  simp only [opD] at hn
  split at hn
  · next vs hb =>
    rw [hb] at vx
    split at hn
    · next v hv =>
      cases hn
      simp only [val] at vx
      cases hl : vals e vs with
      | none => simp [hl] at vx
      | some l =>
        simp only [hl, Option.some.injEq] at vx
        obtain ⟨rv, h1, h2⟩ := vals_get hl hv
        refine .pure r ?_ h2
        simp [execOp, ho, ← vx, Instr.extract, h1]
    · cases hn
  · cases hn
theorem ok_iface {x : Operand} {ty : TypeId} {d : TypeDesc} (hg : Glob P e) (hf : FrR e t a.tmps) (r : Rep e h w) (ho : o.op = .makeInterface ty x) {y : Opd} (hx : opdD P x = some y) (hu : P.underlying ty = some d) (hd : ∀ ms, d ≠ .interface ms)
    (hn : opD D t h (.mkIface ty y) = some nx) : NxOk P e h w (execOp a.eval o) nx := by
  have vx := opd_ok hg hf hx
  simp only [opD, Option.some.injEq] at hn
  subst hn
  refine .pure r (rv := .iface ty (a.eval x)) ?_ (by simp [val, vx])
  have := run_underlying hu w
  cases d <;> first | exact absurd rfl (hd _) | simp [execOp, ho, Instr.makeInterface, Sem.run_bind, this]
theorem ok_func {fn : Fn} {xs ys : Array Operand} (hg : Glob P e) (hf : FrR e t a.tmps) (r : Rep e h w) (ho : o.op = .makeFunc fn xs ys) {xs' ys' : List Opd} (hx : opdsD P xs = some xs') (hy : opdsD P ys = some ys') (hn : opD D t h (.mkFunc fn xs' ys') = some nx) : NxOk P e h w (execOp a.eval o) nx := by
  have vx := opds_ok hg hf hx
  have vy := opds_ok hg hf hy
  simp only [opD, Option.some.injEq] at hn
  subst hn
  refine .pure r (rv := .func fn (xs.map a.eval) (ys.map a.eval)) ?_ ?_
  · simp [execOp, ho, Instr.makeFunc]
  · simp only [val, vx, vy, Option.some.injEq, Value.func.injEq, true_and]
    exact ⟨by rw [← Array.toList_map], by rw [← Array.toList_map]⟩
theorem ok_nilCheck {x : Operand} (hg : Glob P e) (hf : FrR e t a.tmps) (r : Rep e h w) (ho : o.op = .nilCheck x) {y : Opd} (hx : opdD P x = some y) (hn : opD D t h (.nilCheck y) = some nx) : NxOk P e h w (execOp a.eval o) nx := by
  have vx := opd_ok hg hf hx
  simp only [opD] at hn
  split at hn
  · cases hn
  · cases hn
  · cases hn
  · cases hn
  · next h1 h2 h3 h4 =>
    cases hn
    refine .pure r ?_ vx
    cases hv : y.ev t with
    | ptr b o' =>
      rw [hv] at vx
      cases hb : e b with
      | none => simp [val, hb] at vx
      | some z => simp only [val, hb, Option.some.injEq] at vx; simp [execOp, ho, ← vx]
    | slice b o' z l c tg =>
      rw [hv] at vx
      cases hb : e b with
      | none => simp [val, hb] at vx
      | some z => simp only [val, hb, Option.some.injEq] at vx; simp [execOp, ho, ← vx]
    | clip b o' z =>
      rw [hv] at vx
      cases hb : e b with
      | none => simp [val, hb] at vx
      | some z => simp only [val, hb, Option.some.injEq] at vx; simp [execOp, ho, ← vx]
    | map b =>
      rw [hv] at vx
      cases hb : e b with
      | none => simp [val, hb] at vx
      | some z => simp only [val, hb, Option.some.injEq] at vx; simp [execOp, ho, ← vx]
    | func fn f c =>
      rw [hv] at vx
      cases hb : vals e f with
      | none => simp [val, hb] at vx
      | some z =>
        cases hc : vals e c with
        | none => simp [val, hb, hc] at vx
        | some z2 =>
          simp only [val, hb, hc, Option.some.injEq] at vx
          cases fn with
          | method n => exact absurd hv (h4 _ _ _)
          | func f => simp [execOp, ho, ← vx]
          | methodOf t n => simp [execOp, ho, ← vx]
          | via t p f q => simp [execOp, ho, ← vx]
          | yield l => simp [execOp, ho, ← vx]
    | nilPtr => exact absurd hv h1
    | nilIface => exact absurd hv h2
    | nilFunc => exact absurd hv h3
    | bool b => rw [hv] at vx; simp only [val, Option.some.injEq] at vx; simp [execOp, ho, ← vx]
    | int k n => rw [hv] at vx; simp only [val, Option.some.injEq] at vx; simp [execOp, ho, ← vx]
    | str s => rw [hv] at vx; simp only [val, Option.some.injEq] at vx; simp [execOp, ho, ← vx]
    | nilSlice => rw [hv] at vx; simp only [val, Option.some.injEq] at vx; simp [execOp, ho, ← vx]
    | nilMap => rw [hv] at vx; simp only [val, Option.some.injEq] at vx; simp [execOp, ho, ← vx]
    | iface ty v =>
      rw [hv] at vx
      cases hb : val e v with
      | none => simp [val, hb] at vx
      | some z => simp only [val, hb, Option.some.injEq] at vx; simp [execOp, ho, ← vx]
    | agg cs =>
      rw [hv] at vx
      cases hb : vals e cs with
      | none => simp [val, hb] at vx
      | some z => simp only [val, hb, Option.some.injEq] at vx; simp [execOp, ho, ← vx]
    | tuple cs =>
      rw [hv] at vx
      cases hb : vals e cs with
      | none => simp [val, hb] at vx
      | some z => simp only [val, hb, Option.some.injEq] at vx; simp [execOp, ho, ← vx]
end
end Go.Dx
/- D: arithmetic, strings. -/
namespace Go.Dx
open Go

theorem wrap_in (k : IntKind) (n : Int) (h0 : (if k.signed then -(2 ^ (k.bits - 1) : Int) else 0) ≤ n) (h1 : n ≤ (if k.signed then (2 ^ (k.bits - 1) : Int) - 1 else (2 ^ k.bits : Int) - 1)) : k.wrap n = n := by
  unfold IntKind.wrap
  cases k <;> simp [IntKind.signed, IntKind.bits] at h0 h1 ⊢ <;> (try split) <;> omega
theorem wrapD_eq (k : IntKind) (n : Int) : wrapD k n = k.wrap n := by
  cases k <;> simp only [wrapD]
  all_goals
    split
    · next hh => exact (wrap_in _ n (by simp [IntKind.signed, IntKind.bits]; omega) (by simp [IntKind.signed, IntKind.bits]; omega)).symm
    · rfl
theorem bytesEq_eq : ∀ (a b : List UInt8), bytesEq a b = (a == b)
  | [], [] => rfl
  | [], _ :: _ => rfl
  | _ :: _, [] => rfl
  | a :: x, b :: y => by
    rw [bytesEq, bytesEq_eq x y]
    have : (a.toNat == b.toNat) = (a == b) := by
      by_cases h : a = b
      · subst h; simp
      · have : ¬ a.toNat = b.toNat := fun e => h (UInt8.toNat_inj.1 e)
        rw [beq_false_of_ne h, beq_false_of_ne this]
    rw [this]
    rfl
theorem bytesLt_eq : ∀ (a b : List UInt8), bytesLt a b = Op.bytesLess a b
  | [], [] => rfl
  | _ :: _, [] => rfl
  | [], _ :: _ => rfl
  | a :: x, b :: y => by
    rw [bytesLt, Op.bytesLess, bytesLt_eq x y]
    by_cases h1 : a.toNat < b.toNat
    · rw [if_pos h1]
      have : a < b := h1
      simp [this]
    · rw [if_neg h1]
      have h1' : ¬ a < b := h1
      by_cases h2 : a.toNat = b.toNat
      · rw [if_pos h2, UInt8.toNat_inj.1 h2]
        simp
      · rw [if_neg h2]
        have : ¬ a = b := fun e => h2 (by rw [e])
        simp [h1', this]
theorem less_total : ∀ (a b : List UInt8), (!bytesLt b a) = (bytesLt a b || bytesEq a b)
  | [], [] => rfl
  | _ :: _, [] => rfl
  | [], _ :: _ => rfl
  | a :: x, b :: y => by
    rw [bytesLt, bytesLt, bytesEq]
    by_cases h1 : a.toNat < b.toNat
    · rw [if_neg (by omega), if_neg (by omega), if_pos h1]; rfl
    · by_cases h2 : b.toNat < a.toNat
      · rw [if_pos h2, if_neg h1, if_neg (by omega)]
        have : (a.toNat == b.toNat) = false := beq_false_of_ne (by omega)
        rw [this]; rfl
      · have e : a.toNat = b.toNat := by omega
        rw [if_neg h2, if_pos e.symm, if_neg h1, if_pos e, less_total x y]
        have : (a.toNat == b.toNat) = true := by rw [e]; simp
        rw [this]; simp
theorem size_list (s : List UInt8) : (⟨s.toArray⟩ : ByteArray).size = s.length := by simp [ByteArray.size]
theorem toList_list (s : List UInt8) : (⟨s.toArray⟩ : ByteArray).toList = s := by rw [ByteArray.toList_eq]

section
variable {P : Program} {e : Env} {t : Fr} {a : Act} {h : DHeap} {w : World} {o : Oper} {D : DProg} {nx : Nx}

/-- numbers, strings and bools -/
theorem bin_run {op : BinOp} {x y v : DV} {vx vy : Value} {T : TypeId} (hx : val e x = some vx) (hy : val e y = some vy) (hb : binD op x y = some v) :
    ∃ rv, (binOp op T vx vy).run P w = .ok rv w ∧ val e v = some rv := by
  cases x with
  | int k m =>
    cases y with
    | int k' n =>
      simp only [val, Option.some.injEq] at hx hy
      subst hx; subst hy
      simp only [binD] at hb
      by_cases hsh : op = .shl
      · subst hsh
        simp only at hb
        split at hb
        · cases hb
        · next hn => cases hb; exact ⟨_, by simp [binOp, Op.shift, hn], rfl⟩
      by_cases hsr : op = .shr
      · subst hsr
        simp only at hb
        split at hb
        · cases hb
        · next hn => cases hb; exact ⟨_, by simp [binOp, Op.shift, hn], rfl⟩
      by_cases hk : k = k'
      · subst hk
        cases op
        case shl => exact absurd rfl hsh
        case shr => exact absurd rfl hsr
        case quo =>
          simp only [ne_eq, not_true_eq_false, if_false] at hb
          split at hb
          · cases hb
          · next hn => cases hb; exact ⟨.int k (k.wrap (m.tdiv n)), by simp [binOp, Op.intDiv, hn], by simp [val, wrapD_eq]⟩
        case rem =>
          simp only [ne_eq, not_true_eq_false, if_false] at hb
          split at hb
          · cases hb
          · next hn => cases hb; exact ⟨.int k (m.tmod n), by simp [binOp, Op.intDiv, hn], rfl⟩
        case add =>
          simp only [ne_eq, not_true_eq_false, if_false, Option.some.injEq] at hb
          subst hb
          exact ⟨.int k (k.wrap (m + n)), by simp only [binOp, ne_eq, not_true_eq_false, if_false, Op.intArith, Op.intBits, Op.intCmp]; rfl, by simp only [val, wrapD_eq]⟩
        case sub =>
          simp only [ne_eq, not_true_eq_false, if_false, Option.some.injEq] at hb
          subst hb
          exact ⟨.int k (k.wrap (m - n)), by simp only [binOp, ne_eq, not_true_eq_false, if_false, Op.intArith, Op.intBits, Op.intCmp]; rfl, by simp only [val, wrapD_eq]⟩
        case mul =>
          simp only [ne_eq, not_true_eq_false, if_false, Option.some.injEq] at hb
          subst hb
          exact ⟨.int k (k.wrap (m * n)), by simp only [binOp, ne_eq, not_true_eq_false, if_false, Op.intArith, Op.intBits, Op.intCmp]; rfl, by simp only [val, wrapD_eq]⟩
        case and =>
          simp only [ne_eq, not_true_eq_false, if_false, Option.some.injEq] at hb
          subst hb
          exact ⟨.int k (k.wrap (BitVec.ofInt k.bits m &&& BitVec.ofInt k.bits n).toNat), by simp only [binOp, ne_eq, not_true_eq_false, if_false, Op.intArith, Op.intBits, Op.intCmp]; rfl, rfl⟩
        case or =>
          simp only [ne_eq, not_true_eq_false, if_false, Option.some.injEq] at hb
          subst hb
          exact ⟨.int k (k.wrap (BitVec.ofInt k.bits m ||| BitVec.ofInt k.bits n).toNat), by simp only [binOp, ne_eq, not_true_eq_false, if_false, Op.intArith, Op.intBits, Op.intCmp]; rfl, rfl⟩
        case xor =>
          simp only [ne_eq, not_true_eq_false, if_false, Option.some.injEq] at hb
          subst hb
          exact ⟨.int k (k.wrap (BitVec.ofInt k.bits m ^^^ BitVec.ofInt k.bits n).toNat), by simp only [binOp, ne_eq, not_true_eq_false, if_false, Op.intArith, Op.intBits, Op.intCmp]; rfl, rfl⟩
        case andNot =>
          simp only [ne_eq, not_true_eq_false, if_false, Option.some.injEq] at hb
          subst hb
          exact ⟨.int k (k.wrap (BitVec.ofInt k.bits m &&& ~~~ BitVec.ofInt k.bits n).toNat), by simp only [binOp, ne_eq, not_true_eq_false, if_false, Op.intArith, Op.intBits, Op.intCmp]; rfl, rfl⟩
        case eql =>
          simp only [ne_eq, not_true_eq_false, if_false, Option.some.injEq] at hb
          subst hb
          exact ⟨.bool (m == n), by simp only [binOp, ne_eq, not_true_eq_false, if_false, Op.intArith, Op.intBits, Op.intCmp]; rfl, by simp [val, bne]; rfl⟩
        case neq =>
          simp only [ne_eq, not_true_eq_false, if_false, Option.some.injEq] at hb
          subst hb
          exact ⟨.bool (m != n), by simp only [binOp, ne_eq, not_true_eq_false, if_false, Op.intArith, Op.intBits, Op.intCmp]; rfl, by simp [val, bne]; rfl⟩
        case lss =>
          simp only [ne_eq, not_true_eq_false, if_false, Option.some.injEq] at hb
          subst hb
          exact ⟨.bool (decide (m < n)), by simp only [binOp, ne_eq, not_true_eq_false, if_false, Op.intArith, Op.intBits, Op.intCmp]; rfl, rfl⟩
        case leq =>
          simp only [ne_eq, not_true_eq_false, if_false, Option.some.injEq] at hb
          subst hb
          exact ⟨.bool (decide (m ≤ n)), by simp only [binOp, ne_eq, not_true_eq_false, if_false, Op.intArith, Op.intBits, Op.intCmp]; rfl, rfl⟩
        case gtr =>
          simp only [ne_eq, not_true_eq_false, if_false, Option.some.injEq] at hb
          subst hb
          exact ⟨.bool (decide (m > n)), by simp only [binOp, ne_eq, not_true_eq_false, if_false, Op.intArith, Op.intBits, Op.intCmp]; rfl, rfl⟩
        case geq =>
          simp only [ne_eq, not_true_eq_false, if_false, Option.some.injEq] at hb
          subst hb
          exact ⟨.bool (decide (m ≥ n)), by simp only [binOp, ne_eq, not_true_eq_false, if_false, Op.intArith, Op.intBits, Op.intCmp]; rfl, rfl⟩
      · exfalso
        cases op <;> first | exact hsh rfl | exact hsr rfl | simp [hk] at hb
    | _ => simp [binD] at hb
  | str m =>
    cases y with
    | str n =>
      simp only [val, Option.some.injEq] at hx hy
      subst hx; subst hy
      simp only [binD] at hb
      have he : ((⟨m.toArray⟩ : ByteArray).toList == (⟨n.toArray⟩ : ByteArray).toList) = bytesEq m n := by rw [toList_list, toList_list, bytesEq_eq]
      have hl : Op.bytesLess (⟨m.toArray⟩ : ByteArray).toList (⟨n.toArray⟩ : ByteArray).toList = bytesLt m n := by rw [toList_list, toList_list, bytesLt_eq]
      cases op <;> simp only [Option.some.injEq, reduceCtorEq] at hb
      case add =>
        split at hb
        · next hle =>
          cases hb
          refine ⟨.string (⟨m.toArray⟩ ++ ⟨n.toArray⟩), ?_, ?_⟩
          · simp only [binOp, Op.stringOp, size_list]
            rw [if_neg (by simp [IntKind.max, IntKind.bits, IntKind.signed]; omega)]
            rfl
          · simp only [val, Option.some.injEq, Value.string.injEq]
            apply ByteArray.ext
            simp
        · cases hb
      case eql => subst hb; exact ⟨.bool (bytesEq m n), by simp only [binOp, Op.stringOp, he]; rfl, rfl⟩
      case neq => subst hb; exact ⟨.bool (!bytesEq m n), by simp only [binOp, Op.stringOp, he]; rfl, rfl⟩
      case lss => subst hb; exact ⟨.bool (bytesLt m n), by simp only [binOp, Op.stringOp, hl]; rfl, rfl⟩
      case leq => subst hb; exact ⟨.bool (bytesLt m n || bytesEq m n), by simp only [binOp, Op.stringOp, hl, he]; rfl, by simp only [val, less_total]⟩
      case gtr => subst hb; exact ⟨.bool (!(bytesLt m n || bytesEq m n)), by simp only [binOp, Op.stringOp, hl, he]; rfl, by simp only [val, ← less_total, Bool.not_not]⟩
      case geq => subst hb; exact ⟨.bool (!bytesLt m n), by simp only [binOp, Op.stringOp, hl]; rfl, rfl⟩
    | _ => simp [binD] at hb
  | _ => simp [binD] at hb
theorem ok_bin {op : BinOp} {x y : Operand} {T T' : TypeId} (hg : Glob P e) (hf : FrR e t a.tmps) (r : Rep e h w) (ho : o.op = .binOp op T x y T') {x' y' : Opd} (hx : opdD P x = some x') (hy : opdD P y = some y') (hn : opD D t h (.bin op x' y') = some nx) : NxOk P e h w (execOp a.eval o) nx := by
  have vx := opd_ok hg hf hx
  have vy := opd_ok hg hf hy
  simp only [opD] at hn
  split at hn
  · next v hb =>
    cases hn
    obtain ⟨rv, h1, h2⟩ := bin_run (P := P) (w := w) (T := T) vx vy hb
    refine .pure r ?_ h2
    have hgd : (eqGuard op T x y (a.eval x) (a.eval y)).run P w = .ok () w := by
      unfold eqGuard
      cases hvx : x'.ev t <;> rw [hvx] at vx hb <;> cases hvy : y'.ev t <;> rw [hvy] at vy hb <;> simp [binD] at hb
      all_goals
        simp only [val, Option.some.injEq] at vx vy
        rw [← vx, ← vy]
        cases op <;> rfl
    simp [execOp, ho, Sem.run_bind, hgd, h1]
  · cases hn
end
end Go.Dx
/- D: further operations that only compute. -/
namespace Go.Dx
open Go

theorem natOf_val {e : Env} {d : DV} {n : Nat} {v : Value} (h : natOf d = some n) (hv : val e d = some v) : ∃ k, v = .int k n := by
  unfold natOf at h
  split at h
  · next k m =>
    cases h
    simp only [val, Option.some.injEq] at hv
    exact ⟨k, hv.symm⟩
  · cases h
theorem asInt_nat {P : Program} (k : IntKind) (n : Nat) (w : World) : (asIntOf (.int k n)).run P w = .ok (k, (n : Int)) w := rfl

theorem run_bound {P : Program} {w : World} (k : IntKind) {n y : Nat} (code : BoundsCode) (h : n ≤ y) : (Instr.sliceBound (.int k n) y code).run P w = .ok n w := by
  unfold Instr.sliceBound
  rw [Sem.run_bind, asInt_nat]
  show Sem.run P (if (0 : Int) ≤ (n : Int) ∧ (n : Int) ≤ (y : Int) then _ else _) w = _
  rw [if_pos ⟨by omega, by omega⟩]
  rfl
section
variable {P : Program} {e : Env} {t : Fr} {a : Act} {h : DHeap} {w : World} {o : Oper} {D : DProg} {nx : Nx}

theorem ok_un {op : UnOp} {x : Operand} {T : TypeId} (hg : Glob P e) (hf : FrR e t a.tmps) (r : Rep e h w) (ho : o.op = .unOp op T x) {x' : Opd} (hx : opdD P x = some x') (hn : opD D t h (.un op x') = some nx) : NxOk P e h w (execOp a.eval o) nx := by
  have vx := opd_ok hg hf hx
  simp only [opD] at hn
  split at hn
  · next k n hb =>
    cases hn
    rw [hb] at vx
    simp only [val, Option.some.injEq] at vx
    exact .pure r (rv := .int k (k.wrap (0 - n))) (by simp [execOp, ho, ← vx, Op.unary, Op.intArith]) (by simp only [val, wrapD_eq])
  · next b hb =>
    cases hn
    rw [hb] at vx
    simp only [val, Option.some.injEq] at vx
    exact .pure r (rv := .bool !b) (by simp [execOp, ho, ← vx, Op.unary]) rfl
  · next k n hb =>
    cases hn
    rw [hb] at vx
    simp only [val, Option.some.injEq] at vx
    exact .pure r (rv := .int k (k.wrap (BitVec.ofInt k.bits (if k.signed then -1 else k.max) ^^^ BitVec.ofInt k.bits n).toNat)) (by simp [execOp, ho, ← vx, Op.unary, Op.intBits]) rfl
  · cases hn
theorem ok_convInt {s d : TypeId} {x : Operand} {k k0 : IntKind} (hg : Glob P e) (hf : FrR e t a.tmps) (r : Rep e h w) (ho : o.op = .convert s d x) (hs : P.underlying s = some (.int k0)) (hd : P.underlying d = some (.int k)) {x' : Opd} (hx : opdD P x = some x') (hn : opD D t h (.convInt k x') = some nx) : NxOk P e h w (execOp a.eval o) nx := by
  have vx := opd_ok hg hf hx
  simp only [opD] at hn
  split at hn
  · next k1 n hb =>
    cases hn
    rw [hb] at vx
    simp only [val, Option.some.injEq] at vx
    refine .pure r (rv := .int k (k.wrap n)) ?_ (by simp only [val, wrapD_eq])
    simp [execOp, ho, ← vx, convert, Sem.run_bind, run_underlying hs, run_underlying hd, Conv.intToInt]
  · cases hn
theorem ok_convStr {s d : TypeId} {x : Operand} (hg : Glob P e) (hf : FrR e t a.tmps) (r : Rep e h w) (ho : o.op = .convert s d x) (hs : P.underlying s = some .string) (hd : P.underlying d = some .string) {x' : Opd} (hx : opdD P x = some x') (hn : opD D t h (.movStr x') = some nx) : NxOk P e h w (execOp a.eval o) nx := by
  have vx := opd_ok hg hf hx
  simp only [opD] at hn
  split at hn
  · next n hb =>
    cases hn
    rw [hb] at vx
    refine .pure r (rv := a.eval x) ?_ vx
    simp only [val, Option.some.injEq] at vx
    simp [execOp, ho, ← vx, convert, Sem.run_bind, run_underlying hs, run_underlying hd]
  · cases hn
theorem ok_field {T : TypeId} {x : Operand} {i : Nat} {fs : Array Field} {f : Field} {n : Nat} {dd : TypeDesc} (hg : Glob P e) (hf : FrR e t a.tmps) (r : Rep e h w) (ho : o.op = .field T x i) (hT : P.underlying T = some (.struct fs)) (hi : fs[i]? = some f) (hs : sizeT P f.type = some n) (hd : P.underlying f.type = some dd)
    {x' : Opd} (hx : opdD P x = some x') (hn : opD D t h (.field f.offset n (isAggT P f.type) x') = some nx) : NxOk P e h w (execOp a.eval o) nx := by
  have vx := opd_ok hg hf hx
  simp only [opD] at hn
  split at hn
  · next cs hb =>
    rw [hb] at vx
    split at hn
    · next v hv =>
      cases hn
      simp only [val] at vx
      cases hl : vals e cs with
      | none => simp [hl] at vx
      | some l =>
        simp only [hl, Option.some.injEq] at vx
        have hpart : ∃ rv, (part f.type l.toArray f.offset).run P w = .ok rv w ∧ val e v = some rv := by
          unfold partD at hv
          unfold part
          simp only [Sem.run_bind, run_isAggT hd, Result.andThen_ok]
          cases ha : isAggT P f.type with
          | true =>
            rw [ha] at hv
            simp only [if_true] at hv
            split at hv
            · cases hv
              refine ⟨.agg ((l.drop f.offset).take n).toArray, ?_, by simp only [val, vals_sub _ _ hl]⟩
              simp only [if_true, Sem.run_bind, run_sizeT hs, Result.andThen_ok]
              simp [List.extract_eq_take_drop]
            · cases hv
          | false =>
            rw [ha] at hv
            simp only [Bool.false_eq_true, if_false] at hv
            obtain ⟨rv, h1, h2⟩ := vals_get hl hv
            exact ⟨rv, by simp [h1], h2⟩
        obtain ⟨rv, h1, h2⟩ := hpart
        refine .pure r ?_ h2
        simp [execOp, ho, ← vx, Instr.field, Sem.run_bind, run_underlying hT, hi, asAgg, h1]
    · cases hn
  · cases hn
theorem ok_lenStr {c : Call} {x : Operand} {T : TypeId} (hg : Glob P e) (hf : FrR e t a.tmps) (r : Rep e h w) (ho : o.op = .call c) (hc : c.callee = .builtin .len) (hxs : c.args.toList = [x]) (hT : c.argTypes[0]? = some T) (hu : P.underlying T = some .string)
    {x' : Opd} (hx : opdD P x = some x') (hn : opD D t h (.lenStr x') = some nx) : NxOk P e h w (execOp a.eval o) nx := by
  have vx := opd_ok hg hf hx
  have hargs : c.args = #[x] := by apply Array.toList_inj.1; simpa using hxs
  simp only [opD] at hn
  split at hn
  · next s hb =>
    cases hn
    rw [hb] at vx
    simp only [val, Option.some.injEq] at vx
    refine .pure r (rv := .int .i64 s.length) ?_ rfl
    simp [execOp, ho, resolve, hc, hargs, invoke, builtin, Builtin.len_, hT, ← vx, Sem.run_bind, run_underlying hu, goInt, size_list]
  · cases hn
theorem ok_lenSl {c : Call} {x : Operand} {T el : TypeId} (hg : Glob P e) (hf : FrR e t a.tmps) (r : Rep e h w) (ho : o.op = .call c) (hc : c.callee = .builtin .len) (hxs : c.args.toList = [x]) (hT : c.argTypes[0]? = some T) (hu : P.underlying T = some (.slice el))
    {x' : Opd} (hx : opdD P x = some x') (hn : opD D t h (.lenSl x') = some nx) : NxOk P e h w (execOp a.eval o) nx := by
  have vx := opd_ok hg hf hx
  have hargs : c.args = #[x] := by apply Array.toList_inj.1; simpa using hxs
  simp only [opD] at hn
  split at hn
  · next hb =>
    cases hn
    rw [hb] at vx
    simp only [val, Option.some.injEq] at vx
    refine .pure r (rv := .int .i64 0) ?_ rfl
    simp [execOp, ho, resolve, hc, hargs, invoke, builtin, Builtin.len_, hT, ← vx, Sem.run_bind, run_underlying hu, goInt]
  · next b o' z hb =>
    cases hn
    rw [hb] at vx
    simp only [val] at vx
    cases he : e b with
    | none => simp [he] at vx
    | some y =>
      simp only [he, Option.some.injEq] at vx
      refine .pure r (rv := .int .i64 0) ?_ rfl
      simp [execOp, ho, resolve, hc, hargs, invoke, builtin, Builtin.len_, hT, ← vx, Sem.run_bind, run_underlying hu, goInt]
  · next b o' z len cap tg hb =>
    cases hn
    rw [hb] at vx
    simp only [val] at vx
    cases he : e b with
    | none => simp [he] at vx
    | some y =>
      simp only [he, Option.some.injEq] at vx
      refine .pure r (rv := .int .i64 len) ?_ rfl
      simp [execOp, ho, resolve, hc, hargs, invoke, builtin, Builtin.len_, hT, ← vx, Sem.run_bind, run_underlying hu, goInt]
  · cases hn
theorem ok_indexStr {T : TypeId} {x i : Operand} (hg : Glob P e) (hf : FrR e t a.tmps) (r : Rep e h w) (ho : o.op = .index T x i) (hT : P.underlying T = some .string) {x' i' : Opd} (hx : opdD P x = some x') (hi : opdD P i = some i') (hn : opD D t h (.indexStr x' i') = some nx) : NxOk P e h w (execOp a.eval o) nx := by
  have vx := opd_ok hg hf hx
  have vi := opd_ok hg hf hi
  simp only [opD] at hn
  split at hn
  · next s k hb hk =>
    rw [hb] at vx
    simp only [val, Option.some.injEq] at vx
    obtain ⟨kk, hki⟩ := natOf_val hk vi
    split at hn
    · next c hcc =>
      cases hn
      refine .pure r (rv := .int .u8 c.toNat) ?_ rfl
      have hget : (⟨s.toArray⟩ : ByteArray)[k]? = some c := by
        have hlt := (List.getElem?_eq_some_iff.1 hcc).1
        have hv := (List.getElem?_eq_some_iff.1 hcc).2
        rw [getElem?_pos _ _ (by rw [size_list]; exact hlt), ← hv]
        rfl
      simp [execOp, ho, ← vx, hki, Instr.index, Sem.run_bind, run_underlying hT, asIntOf, hget]
    · cases hn
  · cases hn
theorem bounds_ok {e : Env} {len cap : Nat} {lo hi : Option Opd} {lo' hi' : Option Operand} {isS : Bool} (hlo : ∀ x, lo = some x → ∃ y, lo' = some y ∧ val e (x.ev t) = some (a.eval y)) (hlo0 : lo = none → lo' = none) (hhi : ∀ x, hi = some x → ∃ y, hi' = some y ∧ val e (x.ev t) = some (a.eval y)) (hhi0 : hi = none → hi' = none)
    {l u m : Nat} (hb : boundsD len cap (lo.map (·.ev t)) (hi.map (·.ev t)) none = some (l, u, m)) (cap' : Nat) (hc : cap ≤ cap') : m = cap ∧ l ≤ u ∧ u ≤ cap ∧ (Instr.sliceBounds isS len cap' (lo'.map a.eval) (hi'.map a.eval) none).run P w = .ok (l, u, cap') w := by
  simp only [boundsD] at hb
  cases hh : hi with
  | none =>
    rw [hh] at hb
    rw [hhi0 hh]
    cases hl : lo with
    | none =>
      rw [hl] at hb
      rw [hlo0 hl]
      simp only [Option.map_none] at hb
      split at hb
      · next hle =>
        cases hb
        exact ⟨rfl, hle.1, hle.2.1, by simp [Instr.sliceBounds]⟩
      · cases hb
    | some x =>
      rw [hl] at hb
      obtain ⟨y, hy, hv⟩ := hlo x hl
      rw [hy]
      simp only [Option.map_none, Option.map_some] at hb
      split at hb
      · cases hb
      · next n hn =>
        split at hb
        · next hle =>
          cases hb
          obtain ⟨k, hk⟩ := natOf_val hn hv
          refine ⟨rfl, hle.1, hle.2.1, ?_⟩
          simp [Instr.sliceBounds, Sem.run_bind, hk, run_bound k _ hle.1]
        · cases hb
  | some z =>
    rw [hh] at hb
    obtain ⟨y2, hy2, hv2⟩ := hhi z hh
    rw [hy2]
    cases hl : lo with
    | none =>
      rw [hl] at hb
      rw [hlo0 hl]
      simp only [Option.map_none, Option.map_some] at hb
      split at hb
      · cases hb
      · next n hn =>
        split at hb
        · next hle =>
          cases hb
          obtain ⟨k, hk⟩ := natOf_val hn hv2
          refine ⟨rfl, hle.1, hle.2.1, ?_⟩
          simp [Instr.sliceBounds, Sem.run_bind, hk, run_bound k _ (Nat.le_trans hle.2.1 hc)]
        · cases hb
    | some x =>
      rw [hl] at hb
      obtain ⟨y, hy, hv⟩ := hlo x hl
      rw [hy]
      simp only [Option.map_some] at hb
      split at hb
      · cases hb
      · next n hn =>
        split at hb
        · cases hb
        · next n' hn' =>
          split at hb
          · next hle =>
            cases hb
            obtain ⟨k, hk⟩ := natOf_val hn hv2
            obtain ⟨k', hk'⟩ := natOf_val hn' hv
            refine ⟨rfl, hle.1, hle.2.1, ?_⟩
            simp [Instr.sliceBounds, Sem.run_bind, hk, hk', run_bound k _ (Nat.le_trans hle.2.1 hc), run_bound k' _ hle.1]
          · cases hb
theorem bounds3_ok {e : Env} {len cap : Nat} {lo : Option Opd} {hi mx : Opd} {lo' : Option Operand} {hi' mx' : Operand} {isS : Bool} (hlo : ∀ x, lo = some x → ∃ y, lo' = some y ∧ val e (x.ev t) = some (a.eval y)) (hlo0 : lo = none → lo' = none) (hhi : val e (hi.ev t) = some (a.eval hi')) (hmx : val e (mx.ev t) = some (a.eval mx'))
    {l u m : Nat} (hb : boundsD len cap (lo.map (·.ev t)) (some (hi.ev t)) (some (mx.ev t)) = some (l, u, m)) (cap' : Nat) (hc : cap ≤ cap') : m ≤ cap ∧ l ≤ u ∧ u ≤ m ∧ (Instr.sliceBounds isS len cap' (lo'.map a.eval) (some (a.eval hi')) (some (a.eval mx'))).run P w = .ok (l, u, m) w := by
  simp only [boundsD] at hb
  split at hb
  · cases hb
  · next m' hm =>
    split at hb
    · cases hb
    · next n hn =>
      obtain ⟨k, hk⟩ := natOf_val hn hhi
      obtain ⟨k2, hk2⟩ := natOf_val hm hmx
      cases hl : lo with
      | none =>
        rw [hl] at hb
        rw [hlo0 hl]
        simp only [Option.map_none] at hb
        split at hb
        · next hle =>
          cases hb
          refine ⟨hle.2.2, hle.1, hle.2.1, ?_⟩
          simp [Instr.sliceBounds, Sem.run_bind, hk, hk2, run_bound k _ hle.2.1, run_bound k2 _ (Nat.le_trans hle.2.2 hc)]
        · cases hb
      | some x =>
        rw [hl] at hb
        obtain ⟨y, hy, hv⟩ := hlo x hl
        rw [hy]
        simp only [Option.map_some] at hb
        split at hb
        · cases hb
        · next n' hn' =>
          obtain ⟨k', hk'⟩ := natOf_val hn' hv
          split at hb
          · next hle =>
            cases hb
            refine ⟨hle.2.2, hle.1, hle.2.1, ?_⟩
            simp [Instr.sliceBounds, Sem.run_bind, hk, hk2, hk', run_bound k _ hle.2.1, run_bound k2 _ (Nat.le_trans hle.2.2 hc), run_bound k' _ hle.1]
          · cases hb
end
end Go.Dx
/- D: memory: new cells, loads, stores. -/
namespace Go.Dx
open Go

theorem cells_val {e : Env} {z : DV} {v : Value} (h : val e z = some v) : vals e z.cells = some v.cells.toList := by
  cases z with
  | agg cs =>
    simp only [val] at h
    cases hl : vals e cs with
    | none => simp [hl] at h
    | some l => simp only [hl, Option.some.injEq] at h; subst h; simpa [DV.cells, Value.cells] using hl
  | _ =>
    have hc : v.cells = #[v] := by
      simp only [val] at h
      first
      | (simp only [Option.some.injEq] at h; subst h; rfl)
      | (split at h <;> first | (simp only [Option.some.injEq] at h; subst h; rfl) | cases h)
    rw [hc]
    simp [DV.cells, vals, h]
theorem one_val {e : Env} {z : DV} {v : Value} (h : val e z = some v) (h1 : z.one = true) : v.oneCell' = true := by
  cases z with
  | agg cs => cases h1
  | tuple cs => cases h1
  | _ =>
    simp only [val] at h
    first
    | (simp only [Option.some.injEq] at h; subst h; rfl)
    | (split at h <;> first | (simp only [Option.some.injEq] at h; subst h; rfl) | cases h)
theorem ones_val {e : Env} : ∀ {zs : List DV} {vs : List Value}, vals e zs = some vs → zs.all DV.one = true → ∀ v ∈ vs, v.oneCell' = true
  | [], vs, h, _ => by simp [vals] at h; subst h; simp
  | z :: zs, vs, h, h1 => by
    obtain ⟨x, xs, rfl, hx, hxs⟩ := vals_cons h
    simp only [List.all_cons, Bool.and_eq_true] at h1
    intro v hv
    rcases List.mem_cons.1 hv with rfl | hv
    · exact one_val hx h1.1
    · exact ones_val hxs h1.2 v hv

theorem alloc_old (w : World) (o : Obj) {B : Nat} (hB : B < w.heap.size) : (w.alloc o).heap[B]? = w.heap[B]? := by
  show (w.heap.push o)[B]? = _
  rw [Array.getElem?_push, if_neg (by omega)]
theorem alloc_last (w : World) (o : Obj) : (w.alloc o).heap[w.heap.size]? = some o := by
  show (w.heap.push o)[w.heap.size]? = some o
  simp
/-- cells in a new block -/
theorem objAt_new {e : Env} {w' : World} {x : Ent} {cs : List DV} {rs more : List Value} {T : TypeId} {lo hi : Nat} (hv : vals e cs = some rs) (hb : w'.heap[x.blk]? = some (.cells (rs ++ more).toArray T (lo, hi))) (hz : x.base = 0) (hm : x.sp * x.sz ≤ more.length)
    (hf : lo = hi ∨ rs.length + more.length ≤ lo) : objAt e w' x (.cells cs false x.sz) := by
  have hl := vals_length hv
  have hc : ∀ j, w'.cell? ⟨x.blk, x.base + j, none⟩ = (rs ++ more)[j]? := fun j => by
    unfold World.cell?
    rw [hb, hz]
    simp
  refine ⟨rs, hv, fun j v hj => ?_, fun _ j hj => ⟨?_, ?_⟩, rfl, fun _ => ⟨_, _, _, _, hb, by simpa using hf⟩⟩
  · rw [hc, List.getElem?_append_left (List.getElem?_eq_some_iff.1 hj).1]; exact hj
  · rw [hc, List.getElem?_eq_getElem (by simp; omega)]; rfl
  · unfold World.frozen?
    rw [hb, hz]
    simp only [Nat.zero_add]
    by_cases h1 : lo ≤ j
    · by_cases h2 : j < hi
      · omega
      · simp [h2]
    · simp [h1]
theorem step_new_cells {e : Env} {h : DHeap} {w : World} (r : Rep e h w) {cs : List DV} {rs : List Value} (hv : vals e cs = some rs) (more : List Value) (T : TypeId) (sp sz : Nat) (hm : sp * sz ≤ more.length) :
    Step e h w (e.add h.next ⟨w.heap.size, 0, sp, sz⟩) (h.new (.cells cs false sz)) (w.alloc (.cells (rs ++ more).toArray T)) := by
  refine Step.new r ⟨w.heap.size, 0, sp, sz⟩ rfl (by simp) rfl rfl rfl (fun B hB => alloc_old w _ hB) ?_
  exact objAt_new (lo := 0) (hi := 0) (vals_mono (Env.le_add (r.new _ (Nat.le_refl _)) _) _ _ hv) (alloc_last w _) rfl hm (.inl rfl)
theorem add_ptr (e : Env) (b B o sp sz : Nat) : val (e.add b ⟨B, 0, sp, sz⟩) (.ptr b o) = some (.pointer (some ⟨B, o, none⟩)) := by
  have : (e.add b ⟨B, 0, sp, sz⟩) b = some ⟨B, 0, sp, sz⟩ := by simp [Env.add]
  simp [val, this]

/-- what is read -/
theorem load_cells {e : Env} {h : DHeap} {w : World} (r : Rep e h w) {b o n : Nat} {cs : List DV} (hl : loadD h b o n = some cs) : ∃ x rs, e b = some x ∧ vals e cs = some rs ∧ w.rangeAt x.blk (x.base + o) rs ∧ rs.length = n := by
  unfold loadD at hl
  split at hl
  · next c ro k hg =>
    split at hl
    · next hle =>
      cases hl
      obtain ⟨x, hx, hob⟩ := r.obj b _ hg
      obtain ⟨rs, hv, hr, _, _, _⟩ := hob
      have hlen := vals_length hv
      refine ⟨x, _, hx, vals_sub o n hv, fun j v hj => ?_, by simp; omega⟩
      have hjn : j < n := by
        have := (List.getElem?_eq_some_iff.1 hj).1
        simp at this; omega
      rw [List.getElem?_take_of_lt hjn, List.getElem?_drop] at hj
      rw [Nat.add_assoc]
      exact hr (o + j) v hj
    · cases hl
  · cases hl
/-- what is written -/
theorem setCells_heap (b : Nat) : ∀ (vs : List Value) (o : Nat) (w : World), (w.setCells b o vs).heap.size = w.heap.size ∧ (w.setCells b o vs).os = w.os ∧ (w.setCells b o vs).tape = w.tape ∧ (w.setCells b o vs).output = w.output ∧ ∀ B, B ≠ b → (w.setCells b o vs).heap[B]? = w.heap[B]?
  | [], _, _ => ⟨rfl, rfl, rfl, rfl, fun _ _ => rfl⟩
  | v :: r, o, w => by
    rw [World.setCells]
    obtain ⟨h1, h2, h3, h4, h5⟩ := setCells_heap b r (o + 1) (w.setCell ⟨b, o, none⟩ v)
    refine ⟨h1.trans (by simp [World.setCell]), h2, h3, h4, fun B hB => (h5 B hB).trans ?_⟩
    show (w.heap.modify b _)[B]? = _
    rw [Array.getElem?_modify, if_neg (fun e => hB e.symm)]
theorem setCells_row (b : Nat) : ∀ (vs : List Value) (o : Nat) (w : World) {c : Array Value} {T : TypeId} {f : Nat × Nat}, w.heap[b]? = some (.cells c T f) → ∃ c', (w.setCells b o vs).heap[b]? = some (.cells c' T f) ∧ c'.size = c.size
  | [], _, _, c, _, _, h => ⟨c, h, rfl⟩
  | v :: r, o, w, c, T, f, h => by
    rw [World.setCells]
    have h1 : (w.setCell ⟨b, o, none⟩ v).heap[b]? = some (.cells (c.setIfInBounds o v) T f) := by
      show (w.heap.modify b _)[b]? = _
      rw [Array.getElem?_modify, if_pos rfl, h]
      rfl
    obtain ⟨c', h2, h3⟩ := setCells_row b r (o + 1) _ h1
    exact ⟨c', h2, by rw [h3]; simp⟩
theorem Unfrozen.setCells {w : World} {B : Nat} (h : Unfrozen w B) (o : Nat) (vs : List Value) : Unfrozen (w.setCells B o vs) B := by
  obtain ⟨c, T, lo, hi, h1, h2⟩ := h
  obtain ⟨c', h3, h4⟩ := setCells_row B vs o w h1
  exact ⟨c', T, lo, hi, h3, by rw [h4]; exact h2⟩
theorem store_cells {e : Env} {h h' : DHeap} {w : World} (r : Rep e h w) {b o : Nat} {vs : List DV} {rs : List Value} (hv : vals e vs = some rs) (hs : storeD h b o vs = some h') :
    ∃ x, e b = some x ∧ w.there x.blk (x.base + o) rs.length ∧ (∀ v ∈ rs, v.oneCell' = true) ∧ Step e h w e h' (w.setCells x.blk (x.base + o) rs) := by
  unfold storeD at hs
  split at hs
  · next c k hg =>
    split at hs
    · next hle =>
      cases hs
      obtain ⟨x, hx, hob⟩ := r.obj b _ hg
      obtain ⟨cs, hc, hr, ht, hk, hun⟩ := hob
      have ht := ht rfl
      have hlv := vals_length hv
      have hlc := vals_length hc
      have hthere : w.there x.blk (x.base + o) rs.length := fun j hj => by
        have := ht (o + j) (by omega)
        rwa [← Nat.add_assoc] at this
      obtain ⟨k1, k2, k3, k4, k5⟩ := setCells_heap x.blk rs (x.base + o) w
      refine ⟨x, hx, hthere, ones_val hv hle.2, Step.put r hg rfl rfl hx k1 k2 k3 k4 k5 ⟨_, vals_put o hc hv, fun j v hj => ?_, fun _ j hj => ?_, hk, fun _ => (hun rfl).setCells _ _⟩⟩
      · by_cases h1 : j < o
        · rw [List.append_assoc, List.getElem?_append_left (by simp; omega), List.getElem?_take_of_lt h1] at hj
          rw [World.cell?_setCells_out x.blk rs (x.base + o) w _ (fun _ _ => .inl (by show x.base + j < _; omega))]
          exact hr j v hj
        · by_cases h2 : j < o + rs.length
          · rw [List.append_assoc, List.getElem?_append_right (by simp; omega), List.getElem?_append_left (by simp; omega)] at hj
            have hmin : min o cs.length = o := by omega
            simp only [List.length_take, hmin] at hj
            have := World.cell?_setCells_in x.blk rs (x.base + o) w (fun i hi => (hthere i hi).1) (j - o) (by omega)
            rw [show x.base + o + (j - o) = x.base + j by omega] at this
            rw [this, ← hj, List.getElem?_eq_getElem]
          · rw [List.getElem?_append_right (by simp; omega), List.getElem?_drop] at hj
            simp only [List.length_append, List.length_take] at hj
            rw [World.cell?_setCells_out x.blk rs (x.base + o) w _ (fun _ _ => .inr (by show _ ≤ x.base + j; omega))]
            refine hr j v ?_
            rw [← hj]
            congr 1
            omega
      · have hpl : (put c o vs).length = c.length := by simp [put]; omega
        rw [hpl] at hj
        have := ht j hj
        exact ⟨World.isSome_setCells _ _ _ _ _ this.1, by rw [World.frozen?_setCells]; exact this.2⟩
    · cases hs
  · cases hs
end Go.Dx
