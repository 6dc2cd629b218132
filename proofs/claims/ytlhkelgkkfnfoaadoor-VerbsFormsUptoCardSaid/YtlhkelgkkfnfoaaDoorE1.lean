/- The reference's first and Split: the first piece of a line, and all of them. -/
import Derived.Test.YtlhkelgkkfnfoaaDoorE0
import Derived.Test.YtlhkelgkkfnfoaaDoorB2
namespace Go.Proofs.YtlhkelgkkfnfoaaDoor
open Go.RowKit

theorem data_ext {a b : ByteArray} (h : a.data.toList = b.data.toList) : a = b := by
  obtain ⟨⟨x⟩⟩ := a
  obtain ⟨⟨y⟩⟩ := b
  simpa using h
theorem ret_string {a b : ByteArray} (h : a = b) : Ending.returned (.string a) = .returned (.string b) := by rw [h]
theorem at_drop (s : ByteArray) (i : Nat) (h : i < s.size) : s.data.toList = s.data.toList.take i ++ s[i] :: s.data.toList.drop (i + 1) := by
  rw [← drop_cons s i h, List.take_append_drop]
/-- the first piece -/
def headP (l : List UInt8) : List UInt8 := (pieces l).headD []
theorem cut_is (l : List UInt8) : (Lib.cut l [32]).1 = headP l := by
  have h := cut_head l
  unfold headP
  cases hp : pieces l with
  | nil => exact absurd hp (pieces_ne l)
  | cons p ps => rw [hp] at h; simpa using h
theorem head_space (s : ByteArray) (i : Nat) (h : i < s.size) (h32 : s[i] = 32) (hno : ∀ b ∈ s.data.toList.take i, b ≠ 32) : headP s.data.toList = s.data.toList.take i := by
  have e := at_drop s i h
  rw [h32] at e
  have : pieces s.data.toList = pieces (s.data.toList.take i ++ 32 :: s.data.toList.drop (i + 1)) := by rw [← e]
  rw [headP, this, pieces_space hno]; rfl
theorem no_step (s : ByteArray) (i : Nat) (h : i < s.size) (h32 : s[i] ≠ 32) (hno : ∀ b ∈ s.data.toList.take i, b ≠ 32) : ∀ b ∈ s.data.toList.take (i + 1), b ≠ 32 := by
  rw [take_snoc s i h]
  intro b hb
  rcases List.mem_append.1 hb with hb | hb
  · exact hno b hb
  · simp at hb; rw [hb]; exact h32
theorem ne32 {b : UInt8} (h : ¬ b.toNat = 32) : b ≠ 32 := fun e => h (by rw [e]; rfl)
theorem eq32 {b : UInt8} (h : b.toNat = 32) : b = 32 := UInt8.toNat_inj.1 h

set_option maxHeartbeats 400000 in
theorem refFirst_any (s : ByteArray) (w : World) (hs : s.size ≤ 9223372036854775806) : Calls Tryd.prog 31 #[.string s] w fun e w' => e = .returned (.string ⟨(headP s.data.toList).toArray⟩) ∧ w' = w := by
  go_enter Tryd.func31, Tryd.ntmps31
  go_wp2
  go_loop [3] (fun t => ∃ i : Nat, i ≤ s.size ∧ t = .int .i64 i ∧ Hid (∀ b ∈ s.data.toList.take i, b ≠ 32)) (fun t => s.size - (intOf t).toNat)
  case atStart => exact ⟨0, Nat.zero_le _, rfl, Lib.hid (by simp)⟩
  case round =>
    obtain ⟨i, hi, rfl, hno⟩ := hrel
    by_cases hlt : i < s.size
    · by_cases h32 : s[i].toNat = 32
      · have HH := Lib.hid (head_space s i hlt (eq32 h32) hno.out)
        go_wp2
        go_ret
        exact ⟨ret_string (data_ext (by rw [HH.out, extract_take])), rfl⟩
      · have HS := Lib.hid (no_step s i hlt (ne32 h32) hno.out)
        go_wp2
        go_round
        case rel => exact ⟨i + 1, by omega, by go_num, HS⟩
        case measure => simp [intOf]; omega
    · have HH := Lib.hid (show headP s.data.toList = s.data.toList by
        have := hno.out
        rw [take_all s i hlt] at this
        rw [headP, pieces_none this]; rfl)
      go_wp2
      go_ret
      exact ⟨ret_string (data_ext HH.out.symm), rfl⟩

/-- a part of a line -/
theorem extract_part (s : ByteArray) (f i : Nat) : (s.extract f i).data.toList = (s.data.toList.drop f).take (i - f) := by
  rw [ByteArray.data_extract, Array.toList_extract, List.extract_eq_take_drop]
theorem part_step (s : ByteArray) (f i : Nat) (hf : f ≤ i) (h : i < s.size) : (s.data.toList.drop f).take (i + 1 - f) = (s.data.toList.drop f).take (i - f) ++ [s[i]] := by
  rw [show i + 1 - f = i - f + 1 by omega, List.take_succ_eq_append_getElem (by simp; omega), List.getElem_drop]
  congr 2
  have : s[i] = s.data.toList[i]'(by simpa using h) := rfl
  rw [this]
  congr 1
  omega
theorem drop_part (s : ByteArray) (f i : Nat) (hf : f ≤ i) (h : i < s.size) (h32 : s[i] = 32) : s.data.toList.drop f = (s.data.toList.drop f).take (i - f) ++ 32 :: s.data.toList.drop (i + 1) := by
  have e : s.data.toList.drop i = 32 :: s.data.toList.drop (i + 1) := by rw [drop_cons s i h, h32]
  conv => lhs; rw [← List.take_append_drop (i - f) (s.data.toList.drop f)]
  rw [List.drop_drop, show f + (i - f) = i by omega, e]

theorem bytesOf_length (ws : List (List UInt8)) : (bytesOf ws).length = ws.length := by simp [bytesOf]
/-- the rows of Split's own -/
structure InSplit (w0 : World) (v : Value) (n : Nat) (xs : List Value) (wr : World) : Prop where
  own : wr.ownsRow w0.heap.size 9 1 v n xs
  below : Below w0.heap.size w0 wr

theorem grown_split {w0 wr w' : World} {v v' : Value} {n n' : Nat} {xs xs' : List Value} {o : Obj} (h : InSplit w0 v n xs wr) (ho : w'.ownsRow w0.heap.size 9 1 v' n' xs') (hg : (wr.alloc o).grownBy w' v.ownBlock) : InSplit w0 v' n' xs' w' :=
  ⟨ho, (h.below.alloc h.below.size o).grown hg (by have := h.below.size; simp; omega) fun k hk => (h.own.lt k hk).1⟩

set_option maxHeartbeats 1000000 in
set_option maxRecDepth 20000 in
theorem refSplit_any (s : ByteArray) (w : World) (hs : s.size < 4294967281) : Calls Tryd.prog 32 #[.string s] w fun e w' => Below w.heap.size w w' ∧
    ((allWords (wordsOf s) = false ∧ e = .returned (.tuple #[.slice none 0 0, .bool false])) ∨
     (allWords (wordsOf s) = true ∧ ∃ g cap, e = .returned (.tuple #[.slice (some ⟨g, 0, none⟩) (wordsOf s).length cap, .bool true]) ∧ TextsAt w' g 0 (wordsOf s) ∧ w.heap.size ≤ g ∧ g < w'.heap.size)) := by
  obtain ⟨l, hl⟩ : ∃ l, l = s.data.toList := ⟨_, rfl⟩
  have HL := Lib.hid hl
  have HWI := Lib.hid (wordsOf_is s)
  have HAW := Lib.hid (allWords_is s)
  obtain ⟨ws0, hws0⟩ : ∃ ws0, ws0 = wordsOf s := ⟨_, rfl⟩
  rw [← hws0] at HWI HAW ⊢
  rw [← hl] at HWI HAW
  obtain ⟨i0, hi, hz0, hz1, hz2⟩ := info_parts info9
  clear hws0 hl
  go_enter Tryd.func32, Tryd.ntmps32
  go_wp2_with fail
  have HIN := Lib.hid (show InSplit w (.slice (some ⟨w.heap.size, 0, none⟩) 0 0) 0 [] (w.alloc (.cells #[] 9)) from
    ⟨⟨rfl, .inr ⟨_, 0, #[], rfl, Nat.le_refl _, heap_alloc_last _ _, Nat.le_refl _, by decide, rfl, rfl⟩⟩, (Below.refl _ _).alloc (Nat.le_refl _) _⟩)
  go_loopw [4, 5, 6] (fun v t u wr => ∃ (f i : Nat) (ws : List (List UInt8)), t = .int .i64 f ∧ u = .int .i64 i ∧ InSplit w v ws.length ((bytesOf ws).map Value.string) wr ∧ i ≤ s.size + 1 ∧ ws.length ≤ s.size + 1 ∧ f ≤ i ∧
    Hid (allW ws = true ∧ ((i ≤ s.size ∧ ws.length ≤ f ∧ pieces l = ws ++ pieces (l.drop f) ∧ ∀ b ∈ (l.drop f).take (i - f), b ≠ 32) ∨ (i = s.size + 1 ∧ pieces l = ws)))) (fun _ _ u _ => s.size + 1 - (intOf u).toNat)
  case atStart => exact ⟨0, 0, [], rfl, rfl, HIN.out, by omega, by simp, by omega, Lib.hid ⟨rfl, .inl ⟨by omega, by simp, by simp, by simp⟩⟩⟩
  case round =>
    obtain ⟨f, i, ws, rfl, rfl, hin, hi1, hwl, hfi, hh⟩ := hrel
    clear HIN
    by_cases hle : i ≤ s.size
    · obtain ⟨haw, hor⟩ := hh.out
      obtain ⟨_, hwf, hpc, hno⟩ := hor.resolve_right (by omega)
      have HAL := Lib.hid haw
      have HPC := Lib.hid hpc
      have HNO := Lib.hid hno
      have HIN := Lib.hid hin
      clear hh haw hor hpc hno hin
      by_cases hgo : ∃ h : i < s.size, ¬ s[i].toNat = 32
      · obtain ⟨hlt, h32⟩ := hgo
        have HST := Lib.hid (show ∀ b ∈ (l.drop f).take (i + 1 - f), b ≠ 32 by
          rw [HL.out, part_step s f i hfi hlt]
          intro b hb
          rcases List.mem_append.1 hb with hb | hb
          · exact HNO.out b (by rw [HL.out]; exact hb)
          · simp at hb; rw [hb]; exact ne32 h32)
        have hq : (((s[i].toNat : Nat) : Int) != 32) = true := by simp; omega
        clear h32
        go_wp2_with fail
        go_roundw
        case rel => exact ⟨f, i + 1, ws, rfl, by go_num, HIN.out, by omega, hwl, by omega, Lib.hid ⟨HAL.out, .inl ⟨by omega, hwf, HPC.out, HST.out⟩⟩⟩
        case measure => simp [intOf]; omega
      · obtain ⟨x, hx⟩ : ∃ x, x = s.extract f i := ⟨_, rfl⟩
        have hxl : x.data.toList = (l.drop f).take (i - f) := by rw [hx, HL.out, extract_part s f i]
        have hxs : x.size ≤ 9223372036854775806 := by rw [hx]; simp [ByteArray.size_extract]; omega
        have HNX := Lib.hid (show pieces l = (ws ++ [x.data.toList]) ++ (if i < s.size then pieces (l.drop (i + 1)) else []) by
          rw [HPC.out, List.append_assoc]
          congr 1
          by_cases hlt : i < s.size
          · have h32 : s[i].toNat = 32 := by
              by_cases h : s[i].toNat = 32
              · exact h
              · exact absurd ⟨hlt, h⟩ hgo
            have e := drop_part s f i hfi hlt (eq32 h32)
            rw [if_pos hlt, hxl, HL.out]
            conv => lhs; rw [e]
            rw [pieces_space (by rw [← HL.out]; exact HNO.out)]
            rfl
          · rw [if_neg hlt, hxl]
            have e : (l.drop f).take (i - f) = l.drop f := List.take_of_length_le (by rw [HL.out]; simp; omega)
            have hn := HNO.out
            rw [e] at hn
            rw [e, pieces_none hn]; rfl)
        have HX := Lib.hid hx
        have HW := Lib.hid (fun w => refWord_any x w hxs)
        clear hxl hxs
        by_cases hlt : i < s.size
        · have h32 : s[i].toNat = 32 := by
            by_cases h : s[i].toNat = 32
            · exact h
            · exact absurd ⟨hlt, h⟩ hgo
          have hq : (((s[i].toNat : Nat) : Int) != 32) = false := by simp [h32]
          have HNX2 := Lib.hid (show pieces l = (ws ++ [x.data.toList]) ++ pieces (l.drop (i + 1)) by have := HNX.out; rwa [if_pos hlt] at this)
          clear h32 hgo HNX
          go_wp2_with fail
          rw [← HX.out]
          refine (HW.out _).mono ?_
          rintro e wr ⟨rfl, rfl⟩
          by_cases hw : wordB x.data.toList = true
          · rw [hw]
            rw [HX.out]
            go_wp2_with (at_builtin; refine wpList_append_own _ rfl _ _ 39 rfl w.heap.size 9 i0 (.string ⟨#[]⟩) 1 16 Tryd.underlying39 hi hz0 hz1 hz2 rfl (by decide) _ _ _ rfl (HIN.out.own.alloc _) ⟨wr.heap.size, 0, none⟩ 1 1 [.string (s.extract f i)] rfl rfl ?c1 ?c2 ?c3 ?c4 ?c5 ?_)
            case c1 => exact one_new _ _ _
            case c2 => exact one_string _
            case c3 => unfold maxLen; omega
            case c4 => omega
            case c5 => have := HIN.out.below.size; simp; omega
            intro v' w4 hown hgrow _
            have HM := Lib.hid (show InSplit w v' (ws ++ [x.data.toList]).length ((bytesOf (ws ++ [x.data.toList])).map Value.string) w4 from
              grown_split HIN.out (by
                have e : List.map Value.string (bytesOf ws) ++ [Value.string (s.extract f i)] = (bytesOf (ws ++ [x.data.toList])).map Value.string := by
                  rw [← HX.out]; simp [bytesOf]
                rw [e] at hown
                simpa using hown) hgrow)
            clear hown hgrow
            go_wp2_with fail
            go_roundw
            case rel => exact ⟨i + 1, i + 1, ws ++ [x.data.toList], by go_num, by go_num, HM.out, by omega, by simp; omega, by omega, Lib.hid ⟨by
              have := HAL.out
              rw [allW] at this ⊢
              rw [List.all_append, this]
              simp [hw], .inl ⟨by omega, by simp; omega, HNX2.out, by simp⟩⟩⟩
            case measure => simp [intOf]; omega
          · have hw' : wordB x.data.toList = false := by simpa using hw
            have HF := Lib.hid (show allWords ws0 = false by
              rw [HAW.out, HNX2.out, allW, List.all_append, List.all_append]
              simp [hw'])
            rw [hw']
            go_wp2_with fail
            go_ret2
            exact ⟨HIN.out.below, .inl ⟨HF.out, rfl⟩⟩
        · have hie : i = s.size := by omega
          have HNX2 := Lib.hid (show pieces l = ws ++ [x.data.toList] by have := HNX.out; rwa [if_neg hlt, List.append_nil] at this)
          replace HX := Lib.hid (show x = s.extract f s.size by rw [HX.out, hie])
          clear hgo HNX
          go_wp2_with fail
          rw [← HX.out]
          refine (HW.out _).mono ?_
          rintro e wr ⟨rfl, rfl⟩
          by_cases hw : wordB x.data.toList = true
          · rw [hw]
            rw [HX.out]
            go_wp2_with (at_builtin; refine wpList_append_own _ rfl _ _ 39 rfl w.heap.size 9 i0 (.string ⟨#[]⟩) 1 16 Tryd.underlying39 hi hz0 hz1 hz2 rfl (by decide) _ _ _ rfl (HIN.out.own.alloc _) ⟨wr.heap.size, 0, none⟩ 1 1 [.string (s.extract f s.size)] rfl rfl ?c1 ?c2 ?c3 ?c4 ?c5 ?_)
            case c1 => exact one_new _ _ _
            case c2 => exact one_string _
            case c3 => unfold maxLen; omega
            case c4 => omega
            case c5 => have := HIN.out.below.size; simp; omega
            intro v' w4 hown hgrow _
            have HM := Lib.hid (show InSplit w v' (ws ++ [x.data.toList]).length ((bytesOf (ws ++ [x.data.toList])).map Value.string) w4 from
              grown_split HIN.out (by
                have e : List.map Value.string (bytesOf ws) ++ [Value.string (s.extract f s.size)] = (bytesOf (ws ++ [x.data.toList])).map Value.string := by
                  rw [← HX.out]; simp [bytesOf]
                rw [e] at hown
                simpa using hown) hgrow)
            clear hown hgrow
            go_wp2_with fail
            go_roundw
            case rel => exact ⟨i + 1, i + 1, ws ++ [x.data.toList], by go_num, by go_num, HM.out, by omega, by simp; omega, by omega, Lib.hid ⟨by
              have := HAL.out
              rw [allW] at this ⊢
              rw [List.all_append, this]
              simp [hw], .inr ⟨by omega, HNX2.out⟩⟩⟩
            case measure => simp [intOf]; omega
          · have hw' : wordB x.data.toList = false := by simpa using hw
            have HF := Lib.hid (show allWords ws0 = false by
              rw [HAW.out, HNX2.out, allW, List.all_append]
              simp [hw'])
            rw [hw']
            go_wp2_with fail
            go_ret2
            exact ⟨HIN.out.below, .inl ⟨HF.out, rfl⟩⟩
    · obtain ⟨haw, hor⟩ := hh.out
      have hpc := (hor.resolve_left (by omega)).2
      have hne : 0 < (bytesOf ws).length := by
        rw [← hpc, bytesOf, List.length_map]
        exact List.length_pos_iff.2 (pieces_ne l)
      obtain ⟨g, cap, rfl, _, hlt, htx, _⟩ := texts_own hin.own (by rw [← bytesOf_length]; exact hne)
      have HE := Lib.hid (show ws0 = bytesOf ws by rw [HWI.out, hpc])
      have HF := Lib.hid (show allWords ws0 = true by rw [HAW.out, hpc]; exact haw)
      have HT := Lib.hid htx
      have HB := Lib.hid hin.below
      have HG := Lib.hid (show w.heap.size ≤ g from (hin.own.lt g rfl).1)
      clear hh haw hor hpc htx hin hne
      go_wp2_with fail
      go_ret2
      exact ⟨HB.out, .inr ⟨HF.out, g, cap, by rw [HE.out, bytesOf_length]; rfl, by rw [HE.out]; exact HT.out, HG.out, hlt⟩⟩
end Go.Proofs.YtlhkelgkkfnfoaaDoor
