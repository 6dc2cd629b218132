/- The evaluator, part 2. -/
import Derived.Test.YtfdplefijefeiaaGreatDoorZ1
/- D: the same interpreter, made for the kernel: each operation a constant of its own. -/
namespace Go.Dx
open Go

def o_mov (x : Opd) (P : DProg) (t : Fr) (h : DHeap) : Option Nx := some (.same (x.ev t))
def o_pick (c : Opd) (a : Opd) (b : Opd) (P : DProg) (t : Fr) (h : DHeap) : Option Nx := match c.ev t with
    | .bool true => some (.same (a.ev t))
    | .bool false => some (.same (b.ev t))
    | _ => none
def o_alloc (z : List DV) (P : DProg) (t : Fr) (h : DHeap) : Option Nx := some (.val (.ptr h.next 0) (h.new (.cells z false 0)))
def o_box (x : Opd) (P : DProg) (t : Fr) (h : DHeap) : Option Nx := some (.val (.ptr h.next 0) (h.new (.cells (x.ev t).cells false 0)))
def o_build (z : List DV) (ps : List (Nat × Nat × Opd)) (P : DProg) (t : Fr) (h : DHeap) : Option Nx := match fillD z (ps.map fun p => (p.1, p.2.1, p.2.2.ev t)) with
    | some cs => some (.same (.agg cs))
    | none => none
def o_buildSlice (n : Nat) (z : List DV) (ps : List (Nat × Nat × Opd)) (P : DProg) (t : Fr) (h : DHeap) : Option Nx := match fillD z (ps.map fun p => (p.1, p.2.1, p.2.2.ev t)) with
    | some cs => some (.val (.slice h.next 0 0 n n true) (h.new (.cells cs false 0)))
    | none => none
def o_load1 (a : Opd) (P : DProg) (t : Fr) (h : DHeap) : Option Nx := match a.ev t with
    | .ptr b o => match loadD h b o 1 with
      | some [v] => some (.same v)
      | _ => none
    | _ => none
def o_loadN (n : Nat) (a : Opd) (P : DProg) (t : Fr) (h : DHeap) : Option Nx := match a.ev t with
    | .ptr b o => match loadD h b o n with
      | some cs => some (.same (.agg cs))
      | none => none
    | _ => none
def o_store (n : Nat) (a : Opd) (v : Opd) (P : DProg) (t : Fr) (h : DHeap) : Option Nx := match a.ev t with
    | .ptr b o => if (v.ev t).cells.length = n then match storeD h b o (v.ev t).cells with
        | some h' => some (.val undefD h')
        | none => none
      else none
    | _ => none
def o_bin (op : BinOp) (x : Opd) (y : Opd) (P : DProg) (t : Fr) (h : DHeap) : Option Nx := match binD op (x.ev t) (y.ev t) with
    | some v => some (.same v)
    | none => none
def o_eqv (neg : Bool) (e : ETy) (x : Opd) (y : Opd) (P : DProg) (t : Fr) (h : DHeap) : Option Nx := match eqD P.etys 20 e (x.ev t) (y.ev t) with
    | some b => some (.same (.bool (b != neg)))
    | none => none
def o_un (op : UnOp) (x : Opd) (P : DProg) (t : Fr) (h : DHeap) : Option Nx := match op, x.ev t with
    | .neg, .int k n => some (.same (.int k (wrapD k (0 - n))))
    | .not, .bool b => some (.same (.bool !b))
    | .xor, .int k n => some (.same (.int k (k.wrap (BitVec.ofInt k.bits (if k.signed then -1 else k.max) ^^^ BitVec.ofInt k.bits n).toNat)))
    | _, _ => none
def o_convInt (k : IntKind) (x : Opd) (P : DProg) (t : Fr) (h : DHeap) : Option Nx := match x.ev t with
    | .int _ n => some (.same (.int k (wrapD k n)))
    | _ => none
def o_movStr (x : Opd) (P : DProg) (t : Fr) (h : DHeap) : Option Nx := match x.ev t with
    | .str s => some (.same (.str s))
    | _ => none
def o_strBytes (x : Opd) (P : DProg) (t : Fr) (h : DHeap) : Option Nx := match x.ev t with
    | .str s => some (.val (.slice h.next 0 0 s.length s.length false) (h.new (.cells (s.map fun b => .int .u8 b.toNat) false 1)))
    | _ => none
def o_bytesStr (x : Opd) (P : DProg) (t : Fr) (h : DHeap) : Option Nx := match x.ev t with
    | .nilSlice => some (.same (.str []))
    | .slice b o _ len cap _ => match (if len ≤ cap then loadD h b o len else none) with
      | some cs => match bytesOfD cs with
        | some s => some (.same (.str s))
        | none => none
      | none => none
    | _ => none
def o_mkIface (ty : TypeId) (x : Opd) (P : DProg) (t : Fr) (h : DHeap) : Option Nx := some (.same (.iface ty (x.ev t)))
def o_mkFunc (fn : Fn) (a : List Opd) (b : List Opd) (P : DProg) (t : Fr) (h : DHeap) : Option Nx := some (.same (.func fn (a.map (·.ev t)) (b.map (·.ev t))))
def o_mkMap  (P : DProg) (t : Fr) (h : DHeap) : Option Nx := some (.val (.map h.next) (h.new (.map [] 0)))
def o_mkSlice (z : List DV) (sz : Nat) (bytes : Nat) (l : Opd) (c : Opd) (P : DProg) (t : Fr) (h : DHeap) : Option Nx := match natOf (l.ev t), natOf (c.ev t) with
    | some l, some c => if l ≤ c ∧ c ≤ 1073741824 ∧ bytes * c ≤ 1073741824 ∧ z.length = sz then some (.val (.slice h.next 0 0 l c true) (h.new (.cells (List.replicate c z).flatten false 0))) else none
    | _, _ => none
def o_sliceStr (x : Opd) (lo : Option Opd) (hi : Option Opd) (P : DProg) (t : Fr) (h : DHeap) : Option Nx := match x.ev t with
    | .str s => match boundsD s.length s.length (lo.map (·.ev t)) (hi.map (·.ev t)) none with
      | some (l, r, _) => some (.same (.str ((s.drop l).take (r - l))))
      | none => none
    | _ => none
def o_sliceSl (sz : Nat) (x : Opd) (lo : Option Opd) (hi : Option Opd) (mx : Option Opd) (P : DProg) (t : Fr) (h : DHeap) : Option Nx := match x.ev t with
    | .nilSlice => match boundsD 0 0 (lo.map (·.ev t)) (hi.map (·.ev t)) (mx.map (·.ev t)) with
      | some _ => some (.same .nilSlice)
      | none => none
    | .slice b o z len cap tight => match boundsD len cap (lo.map (·.ev t)) (hi.map (·.ev t)) (mx.map (·.ev t)) with
      | some (l, r, m) => if mx.isSome then (if cap = 0 && !tight then some (.same (.clip b o z)) else some (.same (.slice b (o + l * sz) (if cap = 0 then z else o) (r - l) (m - l) true)))
        else some (.same (.slice b (o + l * sz) (if cap = 0 then z else o) (r - l) (m - l) tight))
      | none => none
    | _ => none
def o_sliceArr (n : Nat) (sz : Nat) (x : Opd) (lo : Option Opd) (hi : Option Opd) (P : DProg) (t : Fr) (h : DHeap) : Option Nx := match x.ev t with
    | .ptr b o => match boundsD n n (lo.map (·.ev t)) (hi.map (·.ev t)) none with
      | some (l, r, m) => some (.same (.slice b (if m = l then o else o + l * sz) (if m = l then o else o + l * sz) (r - l) (m - l) true))
      | none => none
    | _ => none
def o_fieldAddr (off : Nat) (x : Opd) (P : DProg) (t : Fr) (h : DHeap) : Option Nx := match x.ev t with
    | .ptr b o => some (.same (.ptr b (o + off)))
    | _ => none
def o_field (off : Nat) (n : Nat) (isAgg : Bool) (x : Opd) (P : DProg) (t : Fr) (h : DHeap) : Option Nx := match x.ev t with
    | .agg cs => match partD cs off n isAgg with
      | some v => some (.same v)
      | none => none
    | _ => none
def o_indexAddrA (n : Nat) (sz : Nat) (x : Opd) (i : Opd) (P : DProg) (t : Fr) (h : DHeap) : Option Nx := match x.ev t, natOf (i.ev t) with
    | .ptr b o, some k => if k < n then some (.same (.ptr b (o + k * sz))) else none
    | _, _ => none
def o_indexAddrS (sz : Nat) (x : Opd) (i : Opd) (P : DProg) (t : Fr) (h : DHeap) : Option Nx := match x.ev t, natOf (i.ev t) with
    | .slice b o _ len cap _, some k => if k < len ∧ k < cap then some (.same (.ptr b (o + k * sz))) else none
    | _, _ => none
def o_indexStr (x : Opd) (i : Opd) (P : DProg) (t : Fr) (h : DHeap) : Option Nx := match x.ev t, natOf (i.ev t) with
    | .str s, some k => match s[k]? with
      | some b => some (.same (.int .u8 b.toNat))
      | none => none
    | _, _ => none
def o_indexArr (n : Nat) (sz : Nat) (isAgg : Bool) (x : Opd) (i : Opd) (P : DProg) (t : Fr) (h : DHeap) : Option Nx := match x.ev t, natOf (i.ev t) with
    | .agg cs, some k => if k < n then match partD cs (k * sz) sz isAgg with
        | some v => some (.same v)
        | none => none
      else none
    | _, _ => none
def o_lookup (ks : Bool) (z : DV) (m : Opd) (k : Opd) (ok : Bool) (P : DProg) (t : Fr) (h : DHeap) : Option Nx := match mapFind h ks (m.ev t) (k.ev t) with
    | none => none
    | some res => some (.same (if ok then .tuple [foundOr z res, .bool res.isSome] else foundOr z res))
def o_mapUpdate (ks : Bool) (m : Opd) (k : Opd) (v : Opd) (P : DProg) (t : Fr) (h : DHeap) : Option Nx := match m.ev t with
    | .map r => match h.get r with
      | some (.map es cl) => match findD ks (k.ev t) es with
        | some (some _) => some (.val undefD (h.put r (.map (setD ks (k.ev t) (v.ev t) es) cl)))
        | some none => some (.val undefD (h.put r (.map (es ++ [(k.ev t, v.ev t, cl)]) (cl + 1))))
        | none => none
      | _ => none
    | _ => none
def o_mapEntry (ks : Bool) (z : DV) (m : Opd) (k : Opd) (P : DProg) (t : Fr) (h : DHeap) : Option Nx := match m.ev t with
    | .map r => match h.get r with
      | some (.map es cl) => match findD ks (k.ev t) es with
        | some (some (v, n)) => some (.val (.tuple [v, .int .i64 n]) (h.put r (.map (setD ks (k.ev t) v es) cl)))
        | some none => some (.val (.tuple [z, .int .i64 cl]) (h.put r (.map (es ++ [(k.ev t, z, cl)]) (cl + 1))))
        | none => none
      | _ => none
    | _ => none
def o_entryStore (m : Opd) (s : Opd) (v : Opd) (P : DProg) (t : Fr) (h : DHeap) : Option Nx := match m.ev t, natOf (s.ev t) with
    | .map r, some n => match h.get r with
      | some (.map es cl) => match stampD n (v.ev t) es with
        | some es' => some (.val undefD (h.put r (.map es' cl)))
        | none => none
      | _ => none
    | _, _ => none
def o_rangeStr (x : Opd) (P : DProg) (t : Fr) (h : DHeap) : Option Nx := match x.ev t with
    | .str s => some (.val (.ptr h.next 0) (h.new (.strIter s 0)))
    | _ => none
def o_rangeMap (x : Opd) (P : DProg) (t : Fr) (h : DHeap) : Option Nx := match x.ev t with
    | .nilMap => some (.val (.ptr h.next 0) (h.new (.mapIter none 0 [] 0)))
    | .map r => match h.get r with
      | some (.map _ cl) => some (.val (.ptr h.next 0) (h.new (.mapIter (some r) cl [] cl)))
      | _ => none
    | _ => none
def o_nextStr (it : Opd) (P : DProg) (t : Fr) (h : DHeap) : Option Nx := match it.ev t with
    | .ptr r 0 => match h.get r with
      | some (.strIter s p) => if p < s.length then match decodeD (s.drop p) with
          | some (c, wd) => some (.val (.tuple [.bool true, .int .i64 p, .int .i32 c]) (h.put r (.strIter s (p + wd))))
          | none => none
        else some (.same (.tuple [.bool false]))
      | _ => none
    | _ => none
def o_nextMap (it : Opd) (P : DProg) (t : Fr) (h : DHeap) : Option Nx := match it.ev t with
    | .ptr r 0 => match h.get r with
      | some (.mapIter none _ _ _) => some (.same (.tuple [.bool false]))
      | some (.mapIter (some m) since seen last) => match h.get m with
        | some (.map es cl) =>
          if !seen.isEmpty && !es.isEmpty && es.all (fun e => decide (last ≤ e.2.2)) then none else
          match es.filter (fun e => !seen.contains e.2.2) with
          | [] => some (.same (.tuple [.bool false]))
          | [(k, v, n)] => if n < since then some (.val (.tuple [.bool true, k, v]) (h.put r (.mapIter (some m) since (seen ++ [n]) cl))) else none
          | _ => none
        | _ => none
      | _ => none
    | _ => none
def o_entry (it : Opd) (P : DProg) (t : Fr) (h : DHeap) : Option Nx := match it.ev t with
    | .ptr r 0 => match h.get r with
      | some (.mapIter (some m) _ seen stepped) => match h.get m, seen.getLast? with
        | some (.map es cl), some s => if cl = stepped then match es.find? (fun e => e.2.2 == s) with
            | some (k, v, _) => some (.same (.tuple [k, v]))
            | none => none
          else none
        | _, _ => none
      | _ => none
    | _ => none
def o_assertC (x : Opd) (ty : TypeId) (ok : Bool) (z : DV) (P : DProg) (t : Fr) (h : DHeap) : Option Nx := match x.ev t with
    | .nilIface => if ok then some (.same (.tuple [z, .bool false])) else none
    | .iface u v => if u = ty then some (.same (if ok then .tuple [v, .bool true] else v)) else if ok then some (.same (.tuple [z, .bool false])) else none
    | _ => none
def o_extract (x : Opd) (i : Nat) (P : DProg) (t : Fr) (h : DHeap) : Option Nx := match x.ev t with
    | .tuple vs => match vs[i]? with
      | some v => some (.same v)
      | none => none
    | _ => none
def o_callF (f : Nat) (args : List Opd) (P : DProg) (t : Fr) (h : DHeap) : Option Nx := some (.call f (args.map (·.ev t)) h)
def o_callV (x : Opd) (args : List Opd) (P : DProg) (t : Fr) (h : DHeap) : Option Nx := match x.ev t with
    | .func (.func f) first captured => some (.call f (first ++ args.map (·.ev t) ++ captured) h)
    | _ => none
def o_callM (x : Opd) (name : String) (args : List Opd) (P : DProg) (t : Fr) (h : DHeap) : Option Nx := match x.ev t with
    | .iface ty v => match P.methods ty name with
      | some (f, .same) => some (.call f (v :: args.map (·.ev t)) h)
      | some (_, .deref _ _) => none
      | none => none
    | _ => none
def o_lenStr (x : Opd) (P : DProg) (t : Fr) (h : DHeap) : Option Nx := match x.ev t with
    | .str s => some (.same (.int .i64 s.length))
    | _ => none
def o_lenSl (x : Opd) (P : DProg) (t : Fr) (h : DHeap) : Option Nx := match x.ev t with
    | .nilSlice => some (.same (.int .i64 0))
    | .clip _ _ _ => some (.same (.int .i64 0))
    | .slice _ _ _ len _ _ => some (.same (.int .i64 len))
    | _ => none
def o_lenMap (x : Opd) (P : DProg) (t : Fr) (h : DHeap) : Option Nx := match x.ev t with
    | .nilMap => some (.same (.int .i64 0))
    | .map r => match h.get r with
      | some (.map es _) => some (.same (.int .i64 es.length))
      | _ => none
    | _ => none
def o_lenArr (n : Nat) (P : DProg) (t : Fr) (h : DHeap) : Option Nx := some (.same (.int .i64 n))
def o_append (sz : Nat) (bytes : Nat) (_x2 : List DV) (x : Opd) (y : Opd) (P : DProg) (t : Fr) (h : DHeap) : Option Nx := match appendD h sz bytes (x.ev t) (y.ev t) with
    | some (v, h') => some (.val v h')
    | none => none
def o_copy (sz : Nat) (x : Opd) (y : Opd) (P : DProg) (t : Fr) (h : DHeap) : Option Nx := match lenD (x.ev t), lenD (y.ev t) with
    | some a, some b => match srcD h sz (min b a) (y.ev t) with
      | some cs => match x.ev t with
        | .nilSlice => some (.same (.int .i64 0))
        | .slice bl o _ len cap _ => if len ≤ cap then match storeD h bl o cs with
            | some h' => some (.val (.int .i64 (min b a : Nat)) h')
            | none => none
          else none
        | _ => none
      | none => none
    | _, _ => none
def o_delete (ks : Bool) (m : Opd) (k : Opd) (P : DProg) (t : Fr) (h : DHeap) : Option Nx := match m.ev t with
    | .nilMap => some (.same undefD)
    | .map r => match h.get r with
      | some (.map es cl) => match findD ks (k.ev t) es with
        | some _ => some (.val undefD (h.put r (.map (delD ks (k.ev t) es) cl)))
        | none => none
      | _ => none
    | _ => none
def o_minmax (b : Bool) (xs : List Opd) (P : DProg) (t : Fr) (h : DHeap) : Option Nx := match xs.map (·.ev t) with
    | x :: r => match minmaxD b x r with
      | some v => some (.same v)
      | none => none
    | [] => none
def o_nilCheck (x : Opd) (P : DProg) (t : Fr) (h : DHeap) : Option Nx := match x.ev t with
    | .nilPtr => none
    | .nilIface => none
    | .nilFunc => none
    | .func (.method _) _ _ => none
    | v => some (.same v)
def o_strish (x : Opd) (P : DProg) (t : Fr) (h : DHeap) : Option Nx := match x.ev t with
    | .nilSlice => none
    | .slice b o z len cap tight => match h.get b with
      | some (.cells cs false k) => some (.val (.slice b o z len cap tight) (h.put b (.cells cs false k)))
      | _ => none
    | _ => none
def o_assertI (x : Opd) (u : TypeId) (ok : Bool) (P : DProg) (t : Fr) (h : DHeap) : Option Nx := match x.ev t with
    | .nilIface => if ok then some (.same (.tuple [.nilIface, .bool false])) else none
    | .iface ty v => match P.impl ty u with
      | some true => some (.same (if ok then .tuple [.iface ty v, .bool true] else .iface ty v))
      | some false => if ok then some (.same (.tuple [.nilIface, .bool false])) else none
      | none => none
    | _ => none
def o_capSl (x : Opd) (P : DProg) (t : Fr) (h : DHeap) : Option Nx := match x.ev t with
    | .nilSlice => some (.same (.int .i64 0))
    | .slice _ _ _ _ cap true => some (.same (.int .i64 cap))
    | _ => none
def o_clearMap (x : Opd) (P : DProg) (t : Fr) (h : DHeap) : Option Nx := match x.ev t with
    | .nilMap => some (.same undefD)
    | .map r => match h.get r with
      | some (.map _ cl) => some (.val undefD (h.put r (.map [] cl)))
      | _ => none
    | _ => none
def o_fail  (P : DProg) (t : Fr) (h : DHeap) : Option Nx := none
def o_skip  (P : DProg) (t : Fr) (h : DHeap) : Option Nx := some (.same undefD)
noncomputable def opF (op : DOp) : DProg → Fr → DHeap → Option Nx :=
  DOp.rec (motive := fun _ => DProg → Fr → DHeap → Option Nx) o_mov o_pick o_alloc o_box o_build o_buildSlice o_load1 o_loadN o_store o_bin o_eqv o_un o_convInt o_movStr o_strBytes o_bytesStr o_mkIface o_mkFunc o_mkMap o_mkSlice o_sliceStr o_sliceSl o_sliceArr o_fieldAddr o_field o_indexAddrA o_indexAddrS o_indexStr o_indexArr o_lookup o_mapUpdate o_mapEntry o_entryStore o_rangeStr o_rangeMap o_nextStr o_nextMap o_entry o_assertC o_extract o_callF o_callV o_callM o_lenStr o_lenSl o_lenMap o_lenArr o_append o_copy o_delete o_minmax o_nilCheck o_strish o_assertI o_capSl o_clearMap o_fail o_skip op
theorem opF_eq (P : DProg) (t : Fr) (h : DHeap) (op : DOp) : opF op P t h = opD P t h op := by cases op <;> rfl

noncomputable def regionF (P : DProg) (call : Caller) : List DOper → Fr → DHeap → Option (Fr × DHeap)
  | [], t, h => some (t, h)
  | o :: os, t, h =>
    bif wantedD o.guard t then
      match opF o.op P t h with
      | some (.same v) => regionF P call os (Fr.put t o.dst v) h
      | some (.val v h') => regionF P call os (Fr.put t o.dst v) h'
      | some (.call f args h') => match call f args h' with
        | some (v, h'') => regionF P call os (Fr.put t o.dst v) h''
        | none => none
      | none => none
    else regionF P call os (Fr.put t o.dst undefD) h
theorem regionF_eq (P : DProg) (call : Caller) : ∀ (l : List DOper) (t : Fr) (h : DHeap), regionF P call l t h = regionD P call l t h
  | [], t, h => rfl
  | o :: os, t, h => by
    have ih := regionF_eq P call os
    unfold regionF regionD
    rw [opF_eq]
    cases hw : wantedD o.guard t with
    | false => simp only [cond_false, Bool.false_eq_true, if_false]; exact ih _ _
    | true =>
      simp only [cond_true, if_true]
      cases opD P t h o.op with
      | none => rfl
      | some nx =>
        cases nx with
        | same v => exact ih _ _
        | val v h' => exact ih _ _
        | call f args h' =>
          simp only []
          cases call f args h' with
          | none => rfl
          | some p => exact ih _ _
noncomputable def heldF (P : DProg) (h : DHeap) : HeldL → Bool
  | [] => true
  | (o, t, v, _) :: l => (match opF o P t h with | some (.same u) => eqDV u v | _ => false) && heldF P h l
theorem heldF_eq (P : DProg) (h : DHeap) : ∀ l, heldF P h l = heldD P h l
  | [] => rfl
  | (o, t, v, _) :: l => by unfold heldF heldD; rw [opF_eq, heldF_eq P h l]; rfl
noncomputable def drawF (P : DProg) (call : Caller) : List (DOper × SK) → HeldL → Fr → DHeap → Option (Fr × DHeap)
  | [], _, t, h => some (t, h)
  | (o, .alone j) :: os, held, t, h => match regionF P call [o] t h with
    | some (t', h') => bif heldF P h' (dropD j held) then drawF P call os (dropD j held) t' h' else none
    | none => none
  | (o, .late) :: os, held, t, h => match regionF P call [o] t h with
    | some (t', h') => bif heldF P h' held then drawF P call os held t' h' else none
    | none => none
  | (o, .pure) :: os, held, t, h =>
    bif wantedD o.guard t then
      match opF o.op P t h with
      | some (.same v) => drawF P call os held (Fr.put t o.dst v) h
      | _ => none
    else drawF P call os held (Fr.put t o.dst undefD) h
  | (o, .read ds) :: os, held, t, h =>
    bif wantedD o.guard t then
      match opF o.op P t h with
      | some (.same v) => drawF P call os ((o.op, t, v, ds) :: held) (Fr.put t o.dst v) h
      | _ => none
    else drawF P call os held (Fr.put t o.dst undefD) h
theorem drawF_eq (P : DProg) (call : Caller) : ∀ (l : List (DOper × SK)) (held : HeldL) (t : Fr) (h : DHeap), drawF P call l held t h = drawD P call l held t h
  | [], _, t, h => rfl
  | (o, .alone j) :: os, held, t, h => by
    unfold drawF drawD
    rw [regionF_eq]
    cases regionD P call [o] t h with
    | none => rfl
    | some p =>
      simp only [heldF_eq]
      cases heldD P p.2 (dropD j held) with
      | false => rfl
      | true => exact drawF_eq P call os _ _ _
  | (o, .late) :: os, held, t, h => by
    unfold drawF drawD
    rw [regionF_eq]
    cases regionD P call [o] t h with
    | none => rfl
    | some p =>
      simp only [heldF_eq]
      cases heldD P p.2 held with
      | false => rfl
      | true => exact drawF_eq P call os _ _ _
  | (o, .pure) :: os, held, t, h => by
    unfold drawF drawD
    rw [opF_eq]
    cases wantedD o.guard t with
    | false => exact drawF_eq P call os _ _ _
    | true =>
      simp only [cond_true, if_true]
      cases opD P t h o.op with
      | none => rfl
      | some nx =>
        cases nx with
        | same v => exact drawF_eq P call os _ _ _
        | val v h' => rfl
        | call f args h' => rfl
  | (o, .read ds) :: os, held, t, h => by
    unfold drawF drawD
    rw [opF_eq]
    cases wantedD o.guard t with
    | false => exact drawF_eq P call os _ _ _
    | true =>
      simp only [cond_true, if_true]
      cases opD P t h o.op with
      | none => rfl
      | some nx =>
        cases nx with
        | same v => exact drawF_eq P call os _ _ _
        | val v h' => rfl
        | call f args h' => rfl
noncomputable def codeF (P : DProg) (call : Caller) (fuel : Nat) : DCode → Fr → DHeap → Option (Ex × Fr × DHeap)
  | .skip, t, h => some (.normal, t, h)
  | .region ops, t, h => match regionF P call ops t h with
    | some (t', h') => some (.normal, t', h')
    | none => none
  | .draw ops, t, h => match drawF P call ops [] t h with
    | some (t', h') => some (.normal, t', h')
    | none => none
  | .seq a b, t, h => match codeF P call fuel a t h with
    | some (.normal, t', h') => codeF P call fuel b t' h'
    | r => r
  | .cond c a b, t, h => match c.ev t with
    | .bool true => codeF P call fuel a t h
    | .bool false => codeF P call fuel b t h
    | _ => none
  | .block id c, t, h => match codeF P call fuel c t h with
    | some (.exit i, t', h') => if i = id then some (.normal, t', h') else some (.exit i, t', h')
    | r => r
  | .loop c, t, h => iterD (codeF P call fuel c) fuel t h
  | .exit id, t, h => some (.exit id, t, h)
  | .ret, t, h => some (.ret, t, h)
theorem codeF_eq (P : DProg) (call : Caller) (fuel : Nat) : ∀ c, codeF P call fuel c = codeD P call fuel c
  | .skip => rfl
  | .exit _ => rfl
  | .ret => rfl
  | .region ops => by funext t h; simp only [codeF, codeD, regionF_eq]; rfl
  | .draw ops => by funext t h; simp only [codeF, codeD, drawF_eq]; rfl
  | .seq a b => by funext t h; simp only [codeF, codeD, codeF_eq P call fuel a, codeF_eq P call fuel b]; rfl
  | .cond c a b => by funext t h; simp only [codeF, codeD, codeF_eq P call fuel a, codeF_eq P call fuel b]; rfl
  | .block id c => by funext t h; simp only [codeF, codeD, codeF_eq P call fuel c]; rfl
  | .loop c => by funext t h; simp only [codeF, codeD, codeF_eq P call fuel c]
noncomputable def callF (P : DProg) (fuel : Nat) : Nat → Caller
  | 0 => fun _ _ _ => none
  | n + 1 => fun f args h =>
    match P.spec f with
    | some s => s args h
    | none =>
      match P.funcs f with
      | some fn => match codeF P (callF P fuel n) fuel fn.body (frameD 0 args .nil) h with
        | some (.exit _, _, _) => none
        | some (_, t, h') => match retD t h' fn.results with
          | some v => some (v, h')
          | none => none
        | none => none
      | none => none
theorem callF_eq (P : DProg) (fuel : Nat) : ∀ n, callF P fuel n = callD P fuel n
  | 0 => rfl
  | n + 1 => by funext f args h; simp only [callF, callD, callF_eq P fuel n, codeF_eq]; rfl
end Go.Dx
