/- The laws' cut and trimmed. -/
import Derived.Test.YtlhkelgkkfnfoaaDoorE6
namespace Go.Proofs.YtlhkelgkkfnfoaaDoor
open Go.RowKit

set_option maxHeartbeats 1000000 in
set_option maxRecDepth 20000 in
theorem cut_any (s : ByteArray) (w : World) (hs : s.size < 4294967281) : Calls Tryd.prog 22 #[.string s] w fun e w' => Below w.heap.size w w' ∧
    ∃ g cap, e = .returned (.slice (some ⟨g, 0, none⟩) (wordsOf s).length cap) ∧ TextsAt w' g 0 (wordsOf s) ∧ w.heap.size ≤ g ∧ g < w'.heap.size := by
  obtain ⟨l, hl⟩ : ∃ l, l = s.data.toList := ⟨_, rfl⟩
  have HL := Lib.hid hl
  have HWI := Lib.hid (wordsOf_is s)
  obtain ⟨ws0, hws0⟩ : ∃ ws0, ws0 = wordsOf s := ⟨_, rfl⟩
  rw [← hws0] at HWI ⊢
  rw [← hl] at HWI
  obtain ⟨i0, hi, hz0, hz1, hz2⟩ := info_parts info9
  clear hws0 hl
  go_enter Tryd.func22, Tryd.ntmps22
  go_wp2_with fail
  have HIN := Lib.hid (show InSplit w (.slice (some ⟨w.heap.size, 0, none⟩) 0 0) 0 [] (w.alloc (.cells #[] 9)) from
    ⟨⟨rfl, .inr ⟨_, 0, #[], rfl, Nat.le_refl _, heap_alloc_last _ _, Nat.le_refl _, by decide, rfl, rfl⟩⟩, (Below.refl _ _).alloc (Nat.le_refl _) _⟩)
  go_loopw [3, 4, 5] (fun v t u wr => ∃ (f i : Nat) (ws : List (List UInt8)), t = .int .i64 f ∧ u = .int .i64 i ∧ InSplit w v ws.length ((bytesOf ws).map Value.string) wr ∧ i ≤ s.size + 1 ∧ ws.length ≤ s.size + 1 ∧ f ≤ i ∧
    Hid ((i ≤ s.size ∧ ws.length ≤ f ∧ pieces l = ws ++ pieces (l.drop f) ∧ ∀ b ∈ (l.drop f).take (i - f), b ≠ 32) ∨ (i = s.size + 1 ∧ pieces l = ws))) (fun _ _ u _ => s.size + 1 - (intOf u).toNat)
  case atStart => exact ⟨0, 0, [], rfl, rfl, HIN.out, by omega, by simp, by omega, Lib.hid (.inl ⟨by omega, by simp, by simp, by simp⟩)⟩
  case round =>
    obtain ⟨f, i, ws, rfl, rfl, hin, hi1, hwl, hfi, hh⟩ := hrel
    clear HIN
    by_cases hle : i ≤ s.size
    · obtain ⟨_, hwf, hpc, hno⟩ := hh.out.resolve_right (by omega)
      have HPC := Lib.hid hpc
      have HNO := Lib.hid hno
      have HIN := Lib.hid hin
      clear hh hpc hno hin
      by_cases hgo : ∃ h : i < s.size, ¬ s[i].toNat = 32
      · obtain ⟨hlt, h32⟩ := hgo
        have HST := Lib.hid (show ∀ b ∈ (l.drop f).take (i + 1 - f), b ≠ 32 by
          rw [HL.out, part_step s f i hfi hlt]
          intro b hb
          rcases List.mem_append.1 hb with hb | hb
          · exact HNO.out b (by rw [HL.out]; exact hb)
          · simp at hb; rw [hb]; exact ne32 h32)
        have hq : (((s[i].toNat : Nat) : Int) == 32) = false := by simp; omega
        have hie : (((i : Nat) : Int) == (s.size : Int)) = false := by simp; omega
        clear h32
        go_wp2_with fail
        go_roundw
        case rel => exact ⟨f, i + 1, ws, rfl, by go_num, HIN.out, by omega, hwl, by omega, Lib.hid (.inl ⟨by omega, hwf, HPC.out, HST.out⟩)⟩
        case measure => simp [intOf]; omega
      · obtain ⟨x, hx⟩ : ∃ x, x = s.extract f i := ⟨_, rfl⟩
        have hxl : x.data.toList = (l.drop f).take (i - f) := by rw [hx, HL.out, extract_part s f i]
        have HNX := Lib.hid (show pieces l = (ws ++ [x.data.toList]) ++ (if i < s.size then pieces (l.drop (i + 1)) else []) by
          rw [HPC.out, List.append_assoc]
          congr 1
          by_cases hlt : i < s.size
          · have h32 : s[i].toNat = 32 := by
              by_cases h : s[i].toNat = 32
              · exact h
              · exact absurd ⟨hlt, h⟩ hgo
            have e := drop_part s f i hfi hlt (eq32 h32)
            rw [if_pos hlt, hxl, HL.out]
            conv => lhs; rw [e]
            rw [pieces_space (by rw [← HL.out]; exact HNO.out)]
            rfl
          · rw [if_neg hlt, hxl]
            have e : (l.drop f).take (i - f) = l.drop f := List.take_of_length_le (by rw [HL.out]; simp; omega)
            have hn := HNO.out
            rw [e] at hn
            rw [e, pieces_none hn]; rfl)
        have HX := Lib.hid hx
        clear hxl hx
        by_cases hlt : i < s.size
        · have h32 : s[i].toNat = 32 := by
            by_cases h : s[i].toNat = 32
            · exact h
            · exact absurd ⟨hlt, h⟩ hgo
          have hq : (((s[i].toNat : Nat) : Int) == 32) = true := by simp [h32]
          have hie : (((i : Nat) : Int) == (s.size : Int)) = false := by simp; omega
          have HNX2 := Lib.hid (show pieces l = (ws ++ [x.data.toList]) ++ pieces (l.drop (i + 1)) by have := HNX.out; rwa [if_pos hlt] at this)
          clear h32 hgo HNX
          go_wp2_with (at_builtin; refine wpList_append_own _ rfl _ _ 39 rfl w.heap.size 9 i0 (.string ⟨#[]⟩) 1 16 Tryd.underlying39 hi hz0 hz1 hz2 rfl (by decide) _ _ _ rfl (HIN.out.own.alloc _) ⟨wr.heap.size, 0, none⟩ 1 1 [.string (s.extract f i)] rfl rfl ?c1 ?c2 ?c3 ?c4 ?c5 ?_)
          case c1 => exact one_new _ _ _
          case c2 => exact one_string _
          case c3 => unfold maxLen; omega
          case c4 => omega
          case c5 => have := HIN.out.below.size; simp; omega
          · intro v' w4 hown hgrow _
            have HM := Lib.hid (show InSplit w v' (ws ++ [x.data.toList]).length ((bytesOf (ws ++ [x.data.toList])).map Value.string) w4 from
              grown_split HIN.out (by
                have e : List.map Value.string (bytesOf ws) ++ [Value.string (s.extract f i)] = (bytesOf (ws ++ [x.data.toList])).map Value.string := by
                  rw [← HX.out]; simp [bytesOf]
                rw [e] at hown
                simpa using hown) hgrow)
            clear hown hgrow
            go_wp2_with fail
            go_roundw
            case rel => exact ⟨i + 1, i + 1, ws ++ [x.data.toList], by go_num, by go_num, HM.out, by omega, by simp; omega, by omega, Lib.hid (.inl ⟨by omega, by simp; omega, HNX2.out, by simp⟩)⟩
            case measure => simp [intOf]; omega
        · have hie0 : i = s.size := by omega
          have hie : (((i : Nat) : Int) == (s.size : Int)) = true := by simp [hie0]
          have HNX2 := Lib.hid (show pieces l = ws ++ [x.data.toList] by have := HNX.out; rwa [if_neg hlt, List.append_nil] at this)
          replace HX := Lib.hid (show x = s.extract f s.size by rw [HX.out, hie0])
          clear hgo HNX
          go_wp2_with (at_builtin; refine wpList_append_own _ rfl _ _ 39 rfl w.heap.size 9 i0 (.string ⟨#[]⟩) 1 16 Tryd.underlying39 hi hz0 hz1 hz2 rfl (by decide) _ _ _ rfl (HIN.out.own.alloc _) ⟨wr.heap.size, 0, none⟩ 1 1 [.string (s.extract f s.size)] rfl rfl ?c1 ?c2 ?c3 ?c4 ?c5 ?_)
          case c1 => exact one_new _ _ _
          case c2 => exact one_string _
          case c3 => unfold maxLen; omega
          case c4 => omega
          case c5 => have := HIN.out.below.size; simp; omega
          · intro v' w4 hown hgrow _
            have HM := Lib.hid (show InSplit w v' (ws ++ [x.data.toList]).length ((bytesOf (ws ++ [x.data.toList])).map Value.string) w4 from
              grown_split HIN.out (by
                have e : List.map Value.string (bytesOf ws) ++ [Value.string (s.extract f s.size)] = (bytesOf (ws ++ [x.data.toList])).map Value.string := by
                  rw [← HX.out]; simp [bytesOf]
                rw [e] at hown
                simpa using hown) hgrow)
            clear hown hgrow
            go_wp2_with fail
            go_roundw
            case rel => exact ⟨i + 1, i + 1, ws ++ [x.data.toList], by go_num, by go_num, HM.out, by omega, by simp; omega, by omega, Lib.hid (.inr ⟨by omega, HNX2.out⟩)⟩
            case measure => simp [intOf]; omega
    · have hpc := (hh.out.resolve_left (by omega)).2
      have hne : 0 < (bytesOf ws).length := by
        rw [← hpc, bytesOf, List.length_map]
        exact List.length_pos_iff.2 (pieces_ne l)
      obtain ⟨g, cap, rfl, _, hlt, htx, _⟩ := texts_own hin.own (by rw [← bytesOf_length]; exact hne)
      have HE := Lib.hid (show ws0 = bytesOf ws by rw [HWI.out, hpc])
      have HT := Lib.hid htx
      have HB := Lib.hid hin.below
      have HG := Lib.hid (show w.heap.size ≤ g from (hin.own.lt g rfl).1)
      clear hh hpc htx hin hne
      go_wp2_with fail
      go_ret
      exact ⟨HB.out, g, cap, by rw [HE.out, bytesOf_length]; rfl, by rw [HE.out]; exact HT.out, HG.out, hlt⟩

/-- a digit -/
def digit (b : UInt8) : Bool := decide (48 ≤ b.toNat) && decide (b.toNat ≤ 57)
/-- without the zeros ahead -/
def strip : List UInt8 → List UInt8
  | [] => []
  | [b] => [b]
  | b :: d :: t => if b = 48 then strip (d :: t) else b :: d :: t
/-- what trimmed answers -/
def trimD (l : List UInt8) : List UInt8 := if l.all digit then strip l else l
theorem digit_no {b : UInt8} (h : b.toNat < 48 ∨ 57 < b.toNat) : digit b = false := by simp [digit]; omega
theorem digit_yes {b : UInt8} (h : ¬ b.toNat < 48) (h2 : ¬ 57 < b.toNat) : digit b = true := by simp [digit]; omega

theorem strip_step (x : ByteArray) (h : 1 < x.size) (h48 : x[0].toNat = 48) : strip (x.extract 1 x.size).data.toList = strip x.data.toList := by
  have e := drop_cons x 0 (by omega)
  have e1 := drop_cons x 1 h
  rw [List.drop_zero] at e
  rw [extract_drop' x 1, e, e1, strip, if_pos (UInt8.toNat_inj.1 h48)]; rfl
theorem strip_stop (x : ByteArray) (h : ¬ 1 < x.size ∨ ∃ h : 1 < x.size, ¬ x[0].toNat = 48) : strip x.data.toList = x.data.toList := by
  rcases h with h | ⟨h, h48⟩
  · have hl : x.data.toList.length ≤ 1 := by simp; omega
    match hx : x.data.toList, hl with
    | [], _ => rfl
    | [b], _ => rfl
    | _ :: _ :: _, hl => simp at hl
  · have e := drop_cons x 0 (by omega)
    have e1 := drop_cons x 1 h
    rw [List.drop_zero] at e
    rw [e, e1, strip, if_neg (fun e => h48 (by rw [e]; rfl))]

set_option maxHeartbeats 1000000 in
theorem trimmed_any (s : ByteArray) (w : World) (hs : s.size ≤ 9223372036854775806) : Calls Tryd.prog 23 #[.string s] w fun e w' => e = .returned (.string ⟨(trimD s.data.toList).toArray⟩) ∧ w' = w := by
  go_enter Tryd.func23, Tryd.ntmps23
  go_wp2
  go_loop [3] (fun t => ∃ i : Nat, i ≤ s.size ∧ t = .int .i64 i ∧ Hid ((s.data.toList.take i).all digit = true)) (fun t => s.size - (intOf t).toNat)
  case atStart => exact ⟨0, Nat.zero_le _, rfl, rfl⟩
  case round =>
    obtain ⟨i, hi, rfl, hall⟩ := hrel
    by_cases hlt : i < s.size
    · by_cases hlo : s[i].toNat < 48
      · have HT := Lib.hid (show trimD s.data.toList = s.data.toList by rw [trimD, all_mem s i hlt digit (digit_no (.inl hlo))]; rfl)
        go_wp2
        go_ret
        exact ⟨ret_string (data_ext HT.out.symm), rfl⟩
      · by_cases hhi : 57 < s[i].toNat
        · have HT := Lib.hid (show trimD s.data.toList = s.data.toList by rw [trimD, all_mem s i hlt digit (digit_no (.inr hhi))]; rfl)
          go_wp2
          go_ret
          exact ⟨ret_string (data_ext HT.out.symm), rfl⟩
        · have HST := Lib.hid (all_step s i hlt digit hall.out (digit_yes hlo hhi))
          go_wp2
          go_round
          case rel => exact ⟨i + 1, by omega, by go_num, HST⟩
          case measure => simp [intOf]; omega
    · have HT := Lib.hid (show trimD s.data.toList = strip s.data.toList by
        have := hall.out
        rw [take_all s i hlt] at this
        rw [trimD, this]; rfl)
      clear hall
      go_wp2
      go_loop [0] (fun t => ∃ x : ByteArray, x.size ≤ 9223372036854775806 ∧ t = .string x ∧ Hid (strip x.data.toList = strip s.data.toList)) (fun t => match t with | .string x => x.size | _ => 0)
      case atStart => exact ⟨s, hs, rfl, rfl⟩
      case round =>
        obtain ⟨x, hx, rfl, hst⟩ := hrel
        by_cases h1 : 1 < x.size
        · by_cases h48 : x[0].toNat = 48
          · have HS2 := Lib.hid (show strip (x.extract 1 x.size).data.toList = strip s.data.toList by rw [strip_step x h1 h48, hst.out])
            clear hst
            go_wp2
            go_round
            case rel => exact ⟨x.extract 1 x.size, by rw [ByteArray.size_extract]; omega, rfl, HS2⟩
            case measure => simp [ByteArray.size_extract]; omega
          · have HS2 := Lib.hid (show trimD s.data.toList = x.data.toList by rw [HT.out, ← hst.out, strip_stop x (.inr ⟨h1, h48⟩)])
            clear hst
            go_wp2
            go_ret
            exact ⟨ret_string (data_ext HS2.out.symm), rfl⟩
        · have HS2 := Lib.hid (show trimD s.data.toList = x.data.toList by rw [HT.out, ← hst.out, strip_stop x (.inl h1)])
          clear hst
          go_wp2
          go_ret
          exact ⟨ret_string (data_ext HS2.out.symm), rfl⟩
end Go.Proofs.YtlhkelgkkfnfoaaDoor
