/- A line that is read is written as it was, but for zeros ahead: the plain law. -/
import Derived.Test.YtlhkelgkkfnfoaaDoorG1
namespace Go.Proofs.YtlhkelgkkfnfoaaDoor
open Go.RowKit

theorem strip_snoc (b : UInt8) : ∀ p : List UInt8, p ≠ [] → strip (p ++ [b]) = if strip p = [48] then [b] else strip p ++ [b]
  | [], h => absurd rfl h
  | [x], _ => by
    show strip (x :: b :: []) = _
    rw [strip, strip, strip]
    by_cases h : x = 48
    · rw [if_pos h, h]; rfl
    · rw [if_neg h, if_neg (by simpa using h)]; rfl
  | x :: y :: t, _ => by
    show strip (x :: y :: (t ++ [b])) = _
    rw [strip]
    by_cases h : x = 48
    · rw [if_pos h, show y :: (t ++ [b]) = (y :: t) ++ [b] from rfl, strip_snoc b (y :: t) (by simp), show strip (x :: y :: t) = strip (y :: t) by rw [strip, if_pos h]]
    · rw [if_neg h, show strip (x :: y :: t) = x :: y :: t by rw [strip, if_neg h], if_neg (by simp)]; rfl
theorem dec_zero : Lib.decDigits 0 = [48] := by rw [Lib.decDigits]; rfl
theorem dec_48 {u : Nat} (h : Lib.decDigits u = [48]) : u = 0 := by
  rw [Lib.decDigits] at h
  split at h
  · next h9 =>
    simp only [List.cons.injEq, and_true] at h
    have := congrArg UInt8.toNat h
    rw [byte_nat (by omega)] at this
    have : (48 : UInt8).toNat = 48 := rfl
    omega
  · next h9 =>
    have hl := congrArg List.length h
    rw [List.length_append] at hl
    have : (Lib.decDigits (u / 10)).length ≠ 0 := by simpa using dec_ne (u / 10)
    simp at hl
    simp [hl] at this
theorem dec_next (u : Nat) (b : UInt8) (h1 : 48 ≤ b.toNat) (h2 : b.toNat ≤ 57) : Lib.decDigits (u * 10 + (b.toNat - 48)) = if Lib.decDigits u = [48] then [b] else Lib.decDigits u ++ [b] := by
  have hb : UInt8.ofNat (48 + (b.toNat - 48)) = b := UInt8.toNat_inj.1 (by rw [byte_nat (by omega)]; omega)
  by_cases h : Lib.decDigits u = [48]
  · rw [if_pos h, dec_48 h, Lib.decDigits, dif_pos (by omega), show 0 * 10 + (b.toNat - 48) = b.toNat - 48 by omega, hb]
  · have hu : u ≠ 0 := fun e => h (e ▸ dec_zero)
    rw [if_neg h]
    conv => lhs; rw [Lib.decDigits]
    rw [dif_neg (by omega), show (u * 10 + (b.toNat - 48)) / 10 = u by omega, show (u * 10 + (b.toNat - 48)) % 10 = b.toNat - 48 by omega, hb]

theorem go_trim (most : Int) : ∀ (r p : List UInt8) (u : Nat) (n : Int), p ≠ [] → p.all digit = true → strip p = Lib.decDigits u → (u : Int) ≤ most → parseGo most r u = (n, true) →
    0 ≤ n ∧ n ≤ most ∧ (p ++ r).all digit = true ∧ strip (p ++ r) = Lib.decDigits n.toNat := by
  intro r
  induction r with
  | nil =>
    intro p u n hp hd hs hm h
    rw [parseGo] at h
    obtain ⟨rfl, -⟩ := Prod.mk.inj h
    rw [List.append_nil]
    exact ⟨by omega, hm, hd, by rw [hs]; rfl⟩
  | cons b t ih =>
    intro p u n hp hd hs hm h
    rw [parseGo] at h
    split at h
    · cases h
    · next hb =>
      split at h
      · cases h
      · next hc =>
        have h1 : 48 ≤ b.toNat := by omega
        have h2 : b.toNat ≤ 57 := by omega
        have e : (u : Int) * 10 + ((b.toNat : Int) - 48) = ((u * 10 + (b.toNat - 48) : Nat) : Int) := by omega
        rw [e] at h
        have := ih (p ++ [b]) (u * 10 + (b.toNat - 48)) n (by simp) (by rw [List.all_append, hd]; simp [digit_yes (b := b) (by omega) (by omega)])
          (by rw [strip_snoc b p hp, hs, dec_next u b h1 h2]) (by omega) h
        rwa [List.append_assoc] at this
theorem parse_trim {l : List UInt8} {most n : Int} (h : parseD l most = (n, true)) : 0 ≤ n ∧ n ≤ most ∧ trimD l = printD n := by
  rw [parseD] at h
  split at h
  · cases h
  · next hl =>
    match l, hl with
    | b :: t, _ =>
      rw [parseGo] at h
      split at h
      · cases h
      · next hb =>
        split at h
        · cases h
        · have e : (0 : Int) * 10 + ((b.toNat : Int) - 48) = ((b.toNat - 48 : Nat) : Int) := by omega
          rw [e] at h
          have hdg : digit b = true := digit_yes (by omega) (by omega)
          have hbb : UInt8.ofNat (48 + (b.toNat - 48)) = b := UInt8.toNat_inj.1 (by rw [byte_nat (by omega)]; omega)
          obtain ⟨h0, h1, h2, h3⟩ := go_trim most t [b] (b.toNat - 48) n (by simp) (by simp [hdg]) (by rw [Lib.decDigits, dif_pos (by omega), hbb]; rfl) (by omega) h
          refine ⟨h0, h1, ?_⟩
          rw [trimD, show b :: t = [b] ++ t from rfl, if_pos h2, h3, printD_nat n h0]

/-- what a line's reading says of its fields' words -/
theorem readF_tube6 {c d : CmdN} {x : ByteArray} (h : readF c 6 x = (d, true)) : d = { c with tube := x } ∧ validB x.data.toList = true := by
  rw [readF, if_pos rfl] at h
  obtain ⟨rfl, h2⟩ := Prod.mk.inj h
  exact ⟨rfl, h2⟩
theorem readF_num {c d : CmdN} {x : ByteArray} {f : Int} (hf : f ≠ 6) (h : readF c f x = (d, true)) : ∃ n, parseD x.data.toList (mostOf f) = (n, true) ∧
    d = (if f = 1 then { c with id := n } else if f = 2 then { c with pri := n } else if f = 3 then { c with delay := n } else if f = 4 then { c with ttr := n } else { c with number := n }) := by
  rw [readF, if_neg hf] at h
  simp only at h
  obtain ⟨h1, h2⟩ := Prod.mk.inj h
  exact ⟨_, Prod.ext rfl h2, h1.symm⟩
theorem read_num {c d : CmdN} {x : ByteArray} {f : Int} (hf : f ≠ 6) (h : readF c f x = (d, true)) : ∃ n, 0 ≤ n ∧ n ≤ mostOf f ∧ trimD x.data.toList = printD n ∧
    d = (if f = 1 then { c with id := n } else if f = 2 then { c with pri := n } else if f = 3 then { c with delay := n } else if f = 4 then { c with ttr := n } else { c with number := n }) := by
  obtain ⟨n, h1, h2⟩ := readF_num hf h
  obtain ⟨a, b, e⟩ := parse_trim h1
  exact ⟨n, a, b, e, h2⟩
theorem readAll_cons {b : UInt8} {bs : List UInt8} {xs : List ByteArray} {c d : CmdN} (h : readAll (b :: bs) xs c = some d) : ∃ x xs' c', xs = x :: xs' ∧ readF c (fieldB b) x = (c', true) ∧ readAll bs xs' c' = some d := by
  cases xs with
  | nil => cases h
  | cons x xs =>
    rw [readAll] at h
    split at h
    · next h2 => exact ⟨x, xs, _, rfl, Prod.ext rfl h2, h⟩
    · cases h

/-- a word of the line and the word that is written -/
def AsWas (k i : Nat) (x y : List UInt8) : Prop := x = y ∨ trimD x = y ∨ (k = 1 ∧ i = 3 ∧ trimD x = [48] ∧ y = [49])
def AllAs (k : Nat) : Nat → List (List UInt8) → List (List UInt8) → Prop
  | _, [], [] => True
  | i, x :: xs, y :: ys => AsWas k i x y ∧ AllAs k (i + 1) xs ys
  | _, _, _ => False
theorem AllAs.length {k : Nat} : ∀ {i : Nat} {xs ys : List (List UInt8)}, AllAs k i xs ys → xs.length = ys.length
  | _, [], [], _ => rfl
  | _, x :: xs, y :: ys, h => by rw [List.length_cons, List.length_cons, h.2.length]
  | _, [], _ :: _, h => h.elim
  | _, _ :: _, [], h => h.elim
theorem AllAs.at {k : Nat} : ∀ {i : Nat} {xs ys : List (List UInt8)}, AllAs k i xs ys → ∀ j x y, xs[j]? = some x → ys[j]? = some y → AsWas k (i + j) x y
  | _, [], [], _, j, x, y, hx, _ => by simp at hx
  | i, a :: xs, b :: ys, h, 0, x, y, hx, hy => by
    simp at hx hy
    rw [← hx, ← hy]; exact h.1
  | i, a :: xs, b :: ys, h, j + 1, x, y, hx, hy => by
    have := h.2.at j x y (by simpa using hx) (by simpa using hy)
    rwa [show i + 1 + j = i + (j + 1) by omega] at this
  | _, [], _ :: _, h, _, _, _, _, _ => h.elim
  | _, _ :: _, [], h, _, _, _, _, _ => h.elim
theorem trimD_word (x : ByteArray) (n : Int) (h : trimD x.data.toList = printD n) (y : List UInt8) (hy : y = printD n) (k i : Nat) : AsWas k i x.data.toList y := .inr (.inl (by rw [h, hy]))

theorem form_put : ((List.range 26).all fun k => !(behindAt k == [112, 100, 116, 110]) || k == 1) = true := by kernel_rfl
theorem put_form : behindAt 1 = [112, 100, 116, 110] := rfl
theorem right_mk {k : Nat} {c : CmdN} (r0 : numOk (hasL k 105) c.id (mostOf 1) = true) (r1 : numOk (hasL k 112) c.pri (mostOf 2) = true) (r2 : numOk (hasL k 100) c.delay (mostOf 3) = true)
    (r3 : numOk (hasL k 116) c.ttr (mostOf 4) = true) (r4 : numOk (hasL k 110) c.number (mostOf 5) = true) (r5 : tubeOk (hasL k 117) c.tube.data.toList = true) (ht : k = 1 → 0 < c.ttr) : rightK k c = true := by
  rw [rightK, okTo_step (okTo_step (okTo_step (okTo_step (okTo_step (okTo_step (n := 0) rfl r0) r1) r2) r3) r4) r5]
  by_cases h : k = 1
  · simp [ht h]
  · simp [h]

/-- A LINE THAT IS READ -/
theorem read_as {k : Nat} {ws : List ByteArray} {c : CmdN} (h1 : 1 ≤ k) (hk : k < 26) (hl : ws.length = (behindAt k).length) (h : readAll (behindAt k) ws (kindC k) = some c) :
    (ttrOne c).kind = k ∧ rightK k (ttrOne c) = true ∧ AllAs k 1 (ws.map fun x => x.data.toList) ((behindAt k).map fun b => (wordL (ttrOne c) b).data.toList) := by
  have f1 : fieldB 105 = 1 := rfl
  have f2 : fieldB 112 = 2 := rfl
  have f3 : fieldB 100 = 3 := rfl
  have f4 : fieldB 116 = 4 := rfl
  have f5 : fieldB 110 = 5 := rfl
  have f6 : fieldB 117 = 6 := rfl
  have hL : ∀ F, behindAt k = F → ∀ r, hasL k r = F.any fun b => b.toNat == r := fun F h r => by rw [hasL, h]
  have hnk : behindAt k ≠ [112, 100, 116, 110] → k ≠ 1 := fun hne e => hne (e ▸ put_form)
  have hno : ∀ d : CmdN, d.kind = k → k ≠ 1 → ttrOne d = d := fun d hd hne => by rw [ttrOne, if_neg]; omega
  have hin : ∀ {n m : Int}, 0 ≤ n → n ≤ m → numOk true n m = true := fun a b => num_in rfl a b
  rcases form_cases hk with hf | hf | hf | hf | hf | hf | hf | hf
  · rw [hf] at h hl ⊢
    have hne := hnk (by rw [hf]; decide)
    obtain rfl : ws = [] := List.length_eq_zero_iff.1 hl
    cases h
    rw [hno _ rfl hne]
    exact ⟨rfl, right_mk (by rw [hL _ hf]; rfl) (by rw [hL _ hf]; rfl) (by rw [hL _ hf]; rfl) (by rw [hL _ hf]; rfl) (by rw [hL _ hf]; rfl) (by rw [hL _ hf]; rfl) (fun e => absurd e hne), trivial⟩
  · have hk1 : k = 1 := by
      have := List.all_eq_true.1 form_put k (List.mem_range.2 hk)
      rw [hf] at this
      simpa using this
    rw [hf] at h hl ⊢
    obtain ⟨x1, w1, c1, rfl, g1, h⟩ := readAll_cons h
    obtain ⟨x2, w2, c2, rfl, g2, h⟩ := readAll_cons h
    obtain ⟨x3, w3, c3, rfl, g3, h⟩ := readAll_cons h
    obtain ⟨x4, w4, c4, rfl, g4, h⟩ := readAll_cons h
    obtain rfl : w4 = [] := by simpa using hl
    rw [f2] at g1; rw [f3] at g2; rw [f4] at g3; rw [f5] at g4
    obtain ⟨n1, a1, b1, e1, rfl⟩ := read_num (by decide) g1
    obtain ⟨n2, a2, b2, e2, rfl⟩ := read_num (by decide) g2
    obtain ⟨n3, a3, b3, e3, rfl⟩ := read_num (by decide) g3
    obtain ⟨n4, a4, b4, e4, rfl⟩ := read_num (by decide) g4
    cases h
    subst hk1
    simp only [kindC, Int.reduceEq, if_true, if_false]
    by_cases hz0 : n3 = 0
    · subst hz0
      rw [show ttrOne ⟨((1 : Nat) : Int), 0, n1, n2, 0, n4, ⟨#[]⟩⟩ = ⟨((1 : Nat) : Int), 0, n1, n2, 1, n4, ⟨#[]⟩⟩ from rfl]
      refine ⟨rfl, right_mk (by rw [hL _ hf]; rfl) (by rw [hL _ hf]; exact hin a1 b1) (by rw [hL _ hf]; exact hin a2 b2) (by rw [hL _ hf]; rfl) (by rw [hL _ hf]; exact hin a4 b4) (by rw [hL _ hf]; rfl) (fun _ => Int.zero_lt_one), ?_, ?_, ?_, ?_, trivial⟩
      · exact trimD_word _ _ e1 _ (by simp only [wordL_112]) _ _
      · exact trimD_word _ _ e2 _ (by simp only [wordL_100]) _ _
      · exact .inr (.inr ⟨rfl, rfl, by rw [e3]; kernel_rfl, by simp only [wordL_116]; kernel_rfl⟩)
      · exact trimD_word _ _ e4 _ (by simp only [wordL_110]) _ _
    · rw [show ttrOne ⟨((1 : Nat) : Int), 0, n1, n2, n3, n4, ⟨#[]⟩⟩ = ⟨((1 : Nat) : Int), 0, n1, n2, n3, n4, ⟨#[]⟩⟩ by rw [ttrOne, if_neg]; exact fun e => hz0 e.2]
      refine ⟨rfl, right_mk (by rw [hL _ hf]; rfl) (by rw [hL _ hf]; exact hin a1 b1) (by rw [hL _ hf]; exact hin a2 b2) (by rw [hL _ hf]; exact hin a3 b3) (by rw [hL _ hf]; exact hin a4 b4) (by rw [hL _ hf]; rfl) (fun _ => by show 0 < n3; omega), ?_, ?_, ?_, ?_, trivial⟩
      · exact trimD_word _ _ e1 _ (by simp only [wordL_112]) _ _
      · exact trimD_word _ _ e2 _ (by simp only [wordL_100]) _ _
      · exact trimD_word _ _ e3 _ (by simp only [wordL_116]) _ _
      · exact trimD_word _ _ e4 _ (by simp only [wordL_110]) _ _
  · rw [hf] at h hl ⊢
    have hne := hnk (by rw [hf]; decide)
    obtain ⟨x1, w1, c1, rfl, g1, h⟩ := readAll_cons h
    obtain rfl : w1 = [] := by simpa using hl
    rw [f6] at g1
    obtain ⟨rfl, v1⟩ := readF_tube6 g1
    cases h
    rw [hno _ rfl hne]
    refine ⟨rfl, right_mk (by rw [hL _ hf]; rfl) (by rw [hL _ hf]; rfl) (by rw [hL _ hf]; rfl) (by rw [hL _ hf]; rfl) (by rw [hL _ hf]; rfl) (by rw [hL _ hf]; exact v1) (fun e => absurd e hne), ?_, trivial⟩
    exact .inl (by simp only [wordL_117])
  · rw [hf] at h hl ⊢
    have hne := hnk (by rw [hf]; decide)
    obtain ⟨x1, w1, c1, rfl, g1, h⟩ := readAll_cons h
    obtain rfl : w1 = [] := by simpa using hl
    rw [f5] at g1
    obtain ⟨n1, a1, b1, e1, rfl⟩ := read_num (by decide) g1
    cases h
    simp only [Int.reduceEq, if_false]
    rw [hno _ rfl hne]
    refine ⟨rfl, right_mk (by rw [hL _ hf]; rfl) (by rw [hL _ hf]; rfl) (by rw [hL _ hf]; rfl) (by rw [hL _ hf]; rfl) (by rw [hL _ hf]; exact hin a1 b1) (by rw [hL _ hf]; rfl) (fun e => absurd e hne), ?_, trivial⟩
    exact trimD_word _ _ e1 _ (by simp only [wordL_110]) _ _
  · rw [hf] at h hl ⊢
    have hne := hnk (by rw [hf]; decide)
    obtain ⟨x1, w1, c1, rfl, g1, h⟩ := readAll_cons h
    obtain rfl : w1 = [] := by simpa using hl
    rw [f1] at g1
    obtain ⟨n1, a1, b1, e1, rfl⟩ := read_num (by decide) g1
    cases h
    simp only [Int.reduceEq, if_true, if_false]
    rw [hno _ rfl hne]
    refine ⟨rfl, right_mk (by rw [hL _ hf]; exact hin a1 b1) (by rw [hL _ hf]; rfl) (by rw [hL _ hf]; rfl) (by rw [hL _ hf]; rfl) (by rw [hL _ hf]; rfl) (by rw [hL _ hf]; rfl) (fun e => absurd e hne), ?_, trivial⟩
    exact trimD_word _ _ e1 _ (by simp only [wordL_105]) _ _
  · rw [hf] at h hl ⊢
    have hne := hnk (by rw [hf]; decide)
    obtain ⟨x1, w1, c1, rfl, g1, h⟩ := readAll_cons h
    obtain ⟨x2, w2, c2, rfl, g2, h⟩ := readAll_cons h
    obtain ⟨x3, w3, c3, rfl, g3, h⟩ := readAll_cons h
    obtain rfl : w3 = [] := by simpa using hl
    rw [f1] at g1; rw [f2] at g2; rw [f3] at g3
    obtain ⟨n1, a1, b1, e1, rfl⟩ := read_num (by decide) g1
    obtain ⟨n2, a2, b2, e2, rfl⟩ := read_num (by decide) g2
    obtain ⟨n3, a3, b3, e3, rfl⟩ := read_num (by decide) g3
    cases h
    simp only [Int.reduceEq, if_true, if_false]
    rw [hno _ rfl hne]
    refine ⟨rfl, right_mk (by rw [hL _ hf]; exact hin a1 b1) (by rw [hL _ hf]; exact hin a2 b2) (by rw [hL _ hf]; exact hin a3 b3) (by rw [hL _ hf]; rfl) (by rw [hL _ hf]; rfl) (by rw [hL _ hf]; rfl) (fun e => absurd e hne), ?_, ?_, ?_, trivial⟩
    · exact trimD_word _ _ e1 _ (by simp only [wordL_105]) _ _
    · exact trimD_word _ _ e2 _ (by simp only [wordL_112]) _ _
    · exact trimD_word _ _ e3 _ (by simp only [wordL_100]) _ _
  · rw [hf] at h hl ⊢
    have hne := hnk (by rw [hf]; decide)
    obtain ⟨x1, w1, c1, rfl, g1, h⟩ := readAll_cons h
    obtain ⟨x2, w2, c2, rfl, g2, h⟩ := readAll_cons h
    obtain rfl : w2 = [] := by simpa using hl
    rw [f1] at g1; rw [f2] at g2
    obtain ⟨n1, a1, b1, e1, rfl⟩ := read_num (by decide) g1
    obtain ⟨n2, a2, b2, e2, rfl⟩ := read_num (by decide) g2
    cases h
    simp only [Int.reduceEq, if_true, if_false]
    rw [hno _ rfl hne]
    refine ⟨rfl, right_mk (by rw [hL _ hf]; exact hin a1 b1) (by rw [hL _ hf]; exact hin a2 b2) (by rw [hL _ hf]; rfl) (by rw [hL _ hf]; rfl) (by rw [hL _ hf]; rfl) (by rw [hL _ hf]; rfl) (fun e => absurd e hne), ?_, ?_, trivial⟩
    · exact trimD_word _ _ e1 _ (by simp only [wordL_105]) _ _
    · exact trimD_word _ _ e2 _ (by simp only [wordL_112]) _ _
  · rw [hf] at h hl ⊢
    have hne := hnk (by rw [hf]; decide)
    obtain ⟨x1, w1, c1, rfl, g1, h⟩ := readAll_cons h
    obtain ⟨x2, w2, c2, rfl, g2, h⟩ := readAll_cons h
    obtain rfl : w2 = [] := by simpa using hl
    rw [f6] at g1; rw [f5] at g2
    obtain ⟨rfl, v1⟩ := readF_tube6 g1
    obtain ⟨n2, a2, b2, e2, rfl⟩ := read_num (by decide) g2
    cases h
    simp only [Int.reduceEq, if_false]
    rw [hno _ rfl hne]
    refine ⟨rfl, right_mk (by rw [hL _ hf]; rfl) (by rw [hL _ hf]; rfl) (by rw [hL _ hf]; rfl) (by rw [hL _ hf]; rfl) (by rw [hL _ hf]; exact hin a2 b2) (by rw [hL _ hf]; exact v1) (fun e => absurd e hne), ?_, ?_, trivial⟩
    · exact .inl (by simp only [wordL_117])
    · exact trimD_word _ _ e2 _ (by simp only [wordL_110]) _ _

theorem kind_head {v : List UInt8} {k : Nat} (h : kindB v = k) (h1 : k ≠ 0) : k < 26 ∧ verbAt k = v := by
  unfold kindB at h
  cases hf : (List.range 26).find? (fun j => decide (0 < j) && (verbAt j == v)) with
  | none => rw [hf] at h; exact absurd h.symm h1
  | some j =>
    rw [hf] at h
    obtain rfl : j = k := h
    have h2 := List.find?_some hf
    have h3 := List.mem_range.1 (List.mem_of_find?_eq_some hf)
    simp only [Bool.and_eq_true, decide_eq_true_eq, beq_iff_eq] at h2
    exact ⟨h3, h2.2⟩
/-- A LINE THAT IS READ IS WRITTEN AS IT WAS, BUT FOR ZEROS AHEAD -/
theorem forms_law {s : ByteArray} {c : CmdN} (h : parseRes s = (c, 0)) : ∃ k : Nat, c.kind = k ∧ 1 ≤ k ∧ k < 26 ∧ rightK k c = true ∧ AllAs k 0 ((wordsOf s).map fun x => x.data.toList) ((wordsL k c).map fun x => x.data.toList) := by
  rw [parseRes] at h
  obtain ⟨k, hk⟩ : ∃ k, k = kindB (Lib.cut s.data.toList [32]).1 := ⟨_, rfl⟩
  rw [← hk] at h
  by_cases h0 : k = 0
  · rw [if_pos h0] at h
    cases h
  · rw [if_neg h0] at h
    split at h
    · cases h
    · next hw =>
      obtain ⟨hk26, hv⟩ := kind_head hk.symm h0
      simp only [Bool.or_eq_true, Bool.not_eq_true', bne_iff_ne, ne_eq, not_or, Bool.not_eq_false, Decidable.not_not] at hw
      split at h
      · cases h
      · next d hd =>
        obtain ⟨rfl, -⟩ := Prod.mk.inj h
        have hp := wordsOf_pieces _ s (Nat.le_refl _)
        match hws : wordsOf s, hw with
        | [], hw => simp at hw; omega
        | x :: xs, hw =>
          rw [hws] at hd hp
          obtain ⟨a, b, e⟩ := read_as (ws := xs) (by omega) hk26 (by have := hw.2; simp at this; omega) hd
          refine ⟨k, a, by omega, hk26, b, .inl ?_, ?_⟩
          · rw [cut_is, headP, ← hp] at hv
            show x.data.toList = verbAt k
            rw [hv]; rfl
          · rw [List.map_map]; exact e
end Go.Proofs.YtlhkelgkkfnfoaaDoor
