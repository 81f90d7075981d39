/- The walk of TaskCheck. Conditions: hash.turns holds its numbers; the data's clone is had. -/
import Derived.Test.YtblddkjdglliaaaGreatDoorAns
import Derived.Deep.CutBlock
import Derived.Deep.CutRange
namespace Go.Proofs.YtblddkjdglliaaaGreatDoor
open Go.RowKit

theorem size_zero (s : ByteArray) (h : s.size = 0) : s = ⟨#[]⟩ := by
  obtain ⟨a⟩ := s
  have : a.size = 0 := h
  rw [Array.eq_empty_of_size_eq_zero this]

set_option maxRecDepth 100000 in
set_option maxHeartbeats 2000000 in
theorem taskCheck_walk (id op : Int) (key : ByteArray) (A : Option Addr) (n c : Nat) (w : World) (hT : Turns w)
    (CL : Calls Tryz.prog 46 #[.slice A n c] w fun e w' => ∃ A' n' c', e = .returned (.slice A' n' c') ∧ True ∧ Below w.heap.size w w') :
    Calls Tryz.prog 5 #[.int .i64 id, .int .i64 op, .string key, .slice A n c] w fun e w' => e = .returned (.bool true) ∧ Below w.heap.size w w' := by
  have CH := fun W => check_any' op key A n c W
  have NB := new_bad id op key A n c w
  have NO := new_ok id op key A n c w (fun _ _ => True)
  replace CH := Lib.hid CH
  replace NB := Lib.hid NB
  replace NO := Lib.hid NO
  replace CL := Lib.hid CL
  have HT := Lib.hid hT
  clear hT
  go_enter Tryz.func5, Tryz.ntmps5
  go_upto_block 0 with fail
  go_cut [9] from 11 to 37 (fun v wx => v = .int .i64 (checkN op key.size n) ∧ wx = w)
  case first =>
    clear CH NB NO CL HT
    obtain ⟨q, hq⟩ : ∃ q, key.size = q := ⟨_, rfl⟩
    have h0 : checkN op q n = if op < 1 ∨ 4 < op then 1 else if op ≠ 4 ∧ (q < 1 ∨ 16 < q) then 5 else if op = 1 ∧ 96 < n then 4 else 0 := rfl
    rw [← hq] at h0
    by_cases h1 : op < 1
    · rw [if_pos (.inl h1)] at h0
      go_wp2_with fail
      go_meet
      exact ⟨by rw [h0], rfl⟩
    by_cases h2 : 4 < op
    · rw [if_pos (.inr h2)] at h0
      go_wp2_with fail
      go_meet
      exact ⟨by rw [h0], rfl⟩
    rw [if_neg (by omega)] at h0
    by_cases h3 : op = 4
    · rw [if_neg (by omega), if_neg (by omega)] at h0
      replace h0 := Lib.hid h0
      subst h3
      go_wp2_with fail
      go_meet
      exact ⟨by rw [h0.out], rfl⟩
    have e4 : (op != 4) = true := by simpa using h3
    by_cases h4 : q < 1
    · rw [if_pos ⟨h3, .inl (by omega)⟩] at h0
      replace h0 := Lib.hid h0
      obtain rfl := size_zero key (by omega)
      go_wp2_with fail
      go_meet
      exact ⟨by rw [h0.out], rfl⟩
    have t1 : key.toList ≠ [] := by
      rw [ByteArray.toList_eq]
      intro h
      have h9 : key.data.toList.length = 0 := by rw [h]; rfl
      have h8 : key.data.toList.length = key.size := by rw [Array.length_toList]; rfl
      omega
    have t2 : (⟨#[]⟩ : ByteArray).toList = [] := by rw [ByteArray.toList_eq]
    have hk2 : (key.toList == []) = false := beq_eq_false_iff_ne.2 t1
    have hk1 : (key.toList == (⟨#[]⟩ : ByteArray).toList) = false := by rw [t2]; exact hk2
    by_cases h5 : 16 < q
    · rw [if_pos ⟨h3, .inr (by omega)⟩] at h0
      replace h0 := Lib.hid h0
      have d5 : decide (16 < (q : Int)) = true := decide_eq_true (by omega)
      go_wp2_with fail
      go_meet
      exact ⟨by rw [h0.out], rfl⟩
    have d5 : decide (16 < (q : Int)) = false := decide_eq_false (by omega)
    rw [if_neg (by omega)] at h0
    clear t1 t2
    by_cases h6 : op = 1
    · by_cases h7 : 96 < n
      · rw [if_pos ⟨h6, h7⟩] at h0
        replace h0 := Lib.hid h0
        subst h6
        have d6 : decide (96 < (n : Int)) = true := decide_eq_true (by omega)
        go_wp2_with fail
        go_meet
        exact ⟨by rw [h0.out], rfl⟩
      · rw [if_neg (by omega)] at h0
        replace h0 := Lib.hid h0
        subst h6
        have d6 : decide (96 < (n : Int)) = false := decide_eq_false (by omega)
        go_wp2_with fail
        go_meet
        exact ⟨by rw [h0.out], rfl⟩
    · rw [if_neg (by omega)] at h0
      replace h0 := Lib.hid h0
      have e6 : (op == 1) = false := by simpa using h6
      go_wp2_with fail
      go_meet
      exact ⟨by rw [h0.out], rfl⟩
  case rest =>
    obtain ⟨rfl, rfl⟩ := hcut
    by_cases hz : checkN op key.size n = 0
    · have NO' := Lib.hid (NO.out hz CL.out)
      rw [hz]
      have CH' := fun W => CH.out W
      rw [hz] at CH'
      replace CH' := Lib.hid CH'
      clear NB NO CL CH
      go_wp2_with fail
      refine NO'.out.mono ?_
      rintro e w3 ⟨w2, v', rfl, rfl, _, hB2⟩
      have hB3 := hB2.trans (((Below.refl _ w2).alloc (Nat.le_refl _) (.cells (taskCells id op key v' ⟨#[]⟩ 0 0 (.slice none 0 0) false 0) 90)).mono hB2.size)
      have hb3 := heap_alloc_new w2 (.cells (taskCells id op key v' ⟨#[]⟩ 0 0 (.slice none 0 0) false 0) 90)
      obtain ⟨W3, hW3⟩ : ∃ W, w2.alloc (.cells (taskCells id op key v' ⟨#[]⟩ 0 0 (.slice none 0 0) false 0) 90) = W := ⟨_, rfl⟩
      rw [hW3] at hB3 hb3 ⊢
      generalize w2.heap.size = b at *
      clear hW3
      have AN := answers_any W3 (HT.out.below hB3)
      replace AN := Lib.hid AN
      replace hb3 := Lib.hid hb3
      unfold tptr
      go_wp2_with (go_at_call 22; refine (CH'.out _).mono ?_; rintro e w' ⟨rfl, rfl⟩)
      refine AN.out.mono ?_
      rintro e w5 ⟨rfl, hB5⟩
      have hb5 := below_blk hB5 hb3.out
      have I1 := id_any b _ _ _ _ _ _ _ _ _ _ w5 hb5
      have I2 := op_any b _ _ _ _ _ _ _ _ _ _ w5 hb5
      have I3 := key_any b _ _ _ _ _ _ _ _ _ _ w5 hb5
      have I4 := writes_of _ _ w5 I2
      unfold tptr at I1 I2 I3 I4
      replace I1 := Lib.hid I1
      replace I2 := Lib.hid I2
      replace I3 := Lib.hid I3
      replace I4 := Lib.hid I4
      clear hb5
      go_wp2_with (first
        | (go_at_call 23; refine I1.out.mono ?_; rintro e w' ⟨rfl, rfl⟩)
        | (go_at_call 24; refine I2.out.mono ?_; rintro e w' ⟨rfl, rfl⟩)
        | (go_at_call 25; refine I3.out.mono ?_; rintro e w' ⟨rfl, rfl⟩)
        | (go_at_call 26; refine I4.out.mono ?_; rintro e w' ⟨rfl, rfl⟩))
      all_goals go_ret
      · exact ⟨rfl, hB3.trans (hB5.mono hB3.size)⟩
      · refine ⟨?_, hB3.trans (hB5.mono hB3.size)⟩
        refine congrArg (fun x => Ending.returned (Value.bool x)) (?_ : (decide (op = 3) == (op == 1 || op == 3)) = true)
        by_cases o3 : op = 3
        · subst o3; rfl
        · have o1 : op ≠ 1 := by assumption
          simp [o3, o1]
    · have NB' := Lib.hid (NB.out hz)
      clear NO CL NB
      generalize checkN op key.size n = x at *
      have hx : (x != 0) = true := by simpa using hz
      have AN := answers_any wc HT.out
      replace AN := Lib.hid AN
      go_wp2_with (first
        | (go_at_call 13; refine NB'.out.mono ?_; rintro e w' ⟨rfl, rfl⟩)
        | (go_at_call 22; refine (CH.out _).mono ?_; rintro e w' ⟨rfl, rfl⟩))
      refine AN.out.mono ?_
      rintro e w5 ⟨rfl, hB5⟩
      go_wp2_with (first
        | (go_at_call 23; refine (id_nil _).mono ?_; rintro e w' ⟨rfl, rfl⟩)
        | (go_at_call 24; refine (op_nil _).mono ?_; rintro e w' ⟨rfl, rfl⟩)
        | (go_at_call 25; refine (key_nil _).mono ?_; rintro e w' ⟨rfl, rfl⟩)
        | (go_at_call 26; refine (writes_of _ 0 _ (op_nil _)).mono ?_; rintro e w' ⟨rfl, rfl⟩))
      go_ret
      exact ⟨rfl, hB5⟩
end Go.Proofs.YtblddkjdglliaaaGreatDoor
