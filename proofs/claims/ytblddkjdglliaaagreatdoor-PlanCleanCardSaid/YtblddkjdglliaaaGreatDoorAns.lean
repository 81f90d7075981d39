/- Contract: answers (layer 19): a small Put's first step, told. Condition: hash.turns holds its numbers. -/
import Derived.Test.YtblddkjdglliaaaGreatDoorModel
import Derived.Lib.SlBytesConst
namespace Go.Proofs.YtblddkjdglliaaaGreatDoor
open Go.RowKit

def hello : List Int := [104, 101, 108, 108, 111]
def tA : TaskM := (newT 3 1 ⟨#[97]⟩ hello).planned_ [1] 1 0 5 2
theorem strsA : tA.strs = [⟨80, 2, [0]⟩] := by
  have h1 : insL [1] = [0] := by rfl
  have h2 : targetsL weightL 80 [1] 1 = [0] := by rw [targetsL, h1, orderL_one]; rfl
  show planL [1] 1 0 5 2 (countN 1 5) = _
  have h3 : countN 1 5 = 1 := by decide
  rw [h3]
  simp only [planL, List.range, List.range.loop, List.map, planS]
  rw [show (16 * ((5 : Nat) : Int) + ((0 : Nat) : Int)) = 80 by decide, show 1 + 0 = 1 from rfl, h2]
def tB : TaskM := { tA with at_ := 0 + 1 }
def mp3 : PoolM := ⟨[newD 3], -1, false⟩
theorem stepA : (tA.step 1 0 mp3 0).1 = 0 ∧ (tA.step 1 0 mp3 0).2.freeN 0 = 2 := by
  have e : tA.step 1 0 mp3 0 = mp3.store 0 80 0 (shardL 1 0 tA.data 0 0) := by
    unfold TaskM.step TaskM.locAt
    rw [strsA]
    simp
  have hd : mp3.list[0]? = some (newD (3 : Nat)) := rfl
  obtain ⟨d', h1, h2, _⟩ := store_at (m := mp3) (st := 80) (ps := 0) (bs := shardL 1 0 tA.data 0 0) hd (newD_ent 3 (by decide)) ⟨rfl, rfl⟩ (fun e he => by simp at he) (by decide) ⟨by decide, by decide, by rw [shardL_len 1 0 _ 0 0 (by decide)]; decide⟩
  have h1' : mp3.store 0 80 0 (shardL 1 0 tA.data 0 0) = _ := h1
  rw [e, h1']
  refine ⟨rfl, ?_⟩
  exact freeN_at (n := 0) (list_set hd d') h2

set_option maxRecDepth 100000 in
set_option maxHeartbeats 2000000 in
theorem answers_any (w : World) (hT : Turns w) :
    Calls Tryz.prog 12 #[] w fun e w' => e = .returned (.bool true) ∧ Below w.heap.size w w' := by
  have HT := Lib.hid hT
  clear hT
  have kc := fun (w : World) (C : Array Value) (n c : Nat) => Lib.run_convert_bytes_const (P := Tryz.prog) w 22 5 C n c Tryz.underlying22 Tryz.underlying5
  go_enter Tryz.func12, Tryz.ntmps12
  go_wp2_with fail
  obtain ⟨W1, hW1⟩ : ∃ W, w.alloc (.cells #[.int .u8 104, .int .u8 101, .int .u8 108, .int .u8 108, .int .u8 111] 5 (5, 6)) = W := ⟨_, rfl⟩
  have hb1 : W1.heap[w.heap.size]? = some (.cells #[.int .u8 104, .int .u8 101, .int .u8 108, .int .u8 108, .int .u8 111] 5 (5, 6)) := by rw [← hW1]; exact heap_alloc_new w _
  have hB1 : Below w.heap.size w W1 := by rw [← hW1]; exact (Below.refl _ w).alloc (Nat.le_refl _) _
  rw [hW1]
  have hHB : HB W1 (.slice (some ⟨w.heap.size, 0, none⟩) 5 5) hello := ⟨_, 5, rfl, by decide, by decide, by decide, by decide, fun _ => ⟨_, 0, _, _, rfl, hb1, fun i hi => by
    have : i < 5 := hi
    match i, this with
    | 0, _ => rfl
    | 1, _ => rfl
    | 2, _ => rfl
    | 3, _ => rfl
    | 4, _ => rfl⟩⟩
  clear hW1 kc
  refine (new_any 3 1 ⟨#[97]⟩ _ hello W1 hHB (by decide)).mono ?_
  rintro e w2 ⟨b, rfl, hT2, hbz, hB2⟩
  have hBw2 := hB1.trans (hB2.mono hB1.size)
  have hwb : w.heap.size ≤ b := Nat.le_trans hB1.size hbz
  clear hb1 hHB hB2 hB1
  unfold tptr
  replace hT2 := Lib.hid hT2
  replace hBw2 := Lib.hid hBw2
  go_wp2_with fail
  obtain ⟨W3, hW3⟩ : ∃ W, w2.alloc (.cells #[.int .i64 1] 3) = W := ⟨_, rfl⟩
  have hb3 : W3.heap[w2.heap.size]? = some (.cells #[.int .i64 1] 3 (0, 0)) := by rw [← hW3]; exact heap_alloc_new w2 _
  have hB3 : Below w2.heap.size w2 W3 := by rw [← hW3]; exact (Below.refl _ _).alloc (Nat.le_refl _) _
  rw [hW3]
  clear hW3
  have hBw3 := hBw2.out.trans (hB3.mono hBw2.out.size)
  have hHC : HC W3 (.slice (some ⟨w2.heap.size, 0, none⟩) 1 1) [1] := ⟨_, 1, rfl, by decide, by decide, fun _ => ⟨_, 0, rfl, fun i hi => by
    have : i < 1 := hi
    obtain rfl : i = 0 := by omega
    rw [cell_of_blk hb3]; rfl⟩⟩
  refine (plan_any b (newT 3 1 ⟨#[97]⟩ hello) 1 0 5 2 _ [1] W3 (hT2.out.below hB3) rfl hHC (by decide) (by decide) (by decide) (by decide) (by decide) (by decide) (HT.out.below hBw3)).mono ?_
  rintro e w4 (⟨_, rfl, hT4, hch4⟩ | ⟨hno, _, _⟩)
  case inr => exact absurd (.inr (by decide)) hno
  have hBw4 : Below w.heap.size w w4 := hBw3.trans (hch4.to_below hBw3.size (by rintro k rfl; omega))
  change IsTask w4 b tA at hT4
  have hT4' := Lib.hid hT4
  clear hT4 hch4 hb3 hHC hB3 hBw3 hbz
  go_wp2_with fail
  refine (pnew_any w4).mono ?_
  rintro e w5 ⟨rfl, hP5, hB5⟩
  have hT5 := hT4'.out.below hB5
  have hBw5 := hBw4.trans (hB5.mono hBw4.size)
  obtain ⟨p, hp⟩ : ∃ p, w4.heap.size = p := ⟨_, rfl⟩
  rw [hp] at hP5 ⊢
  have hpb : w.heap.size ≤ p := by rw [← hp]; exact hBw4.size
  unfold pptr
  have HP5 := Lib.hid hP5
  have HT5 := Lib.hid hT5
  clear hP5 hT5 hB5 hp
  go_wp2_with fail
  refine (padd_any p _ ⟨[], -1, false⟩ 3 w5 HP5.out).mono ?_
  rintro e w6 ⟨L6, rfl, hP6, hs6⟩
  change IsPool w6 p L6 mp3 at hP6
  have hT6 := HT5.out.pstep HP5.out hs6
  have hBw6 : Below w.heap.size w w6 := hBw5.trans (hs6.chg.to_below hBw5.size (by
    rintro k (rfl | hk | ⟨x, hx, _⟩)
    · exact hpb
    · simp [Value.ownBlock] at hk
    · simp at hx))
  have hL6 : ∀ k, PFp p L6 k → w.heap.size ≤ k := by
    intro k hk
    rcases hs6.fp k hk with (rfl | hk | ⟨x, hx, _⟩) | h
    · exact hpb
    · simp [Value.ownBlock] at hk
    · simp at hx
    · exact Nat.le_trans hBw5.size h
  have NX := next_store b p tA L6 mp3 1 0 0 w6 hT6 hP6 (by intro d hd; simp [mp3] at hd; subst hd; simp [newD]) (by decide) (by decide) (by decide)
    (ready_planned _ [1] 1 0 5 2 rfl (by decide) (by decide) (by decide) (.inr (by decide))) rfl (by rw [strsA]; decide)
  obtain ⟨st1, st2⟩ := stepA
  generalize tA.step 1 0 mp3 0 = y at *
  rw [st1] at NX
  replace NX := Lib.hid NX
  clear hP6 hT6 hs6 HP5 HT5 hT4'
  unfold tptr pptr at NX
  go_wp2_with fail
  refine NX.out.mono ?_
  rintro e w7 ⟨L7, rfl, hP7, hT7, hch7, hfp7⟩
  rw [if_pos trivial] at hT7
  change IsTask w7 b tB at hT7
  have hBw7 : Below w.heap.size w w7 := hBw6.trans (hch7.to_below hBw6.size (by
    rintro k (rfl | hk)
    · exact hwb
    · exact hL6 k hk))
  have ID := hT7.id_
  have WR := writes_of _ _ w7 hT7.op_
  have e3 : tB.oid = 5 := rfl
  have e4 : tB.strs.length = 1 := by show tA.strs.length = 1; rw [strsA]; rfl
  have OB := object_any b _ w7 hT7 (by show tA.strs.length ≤ 100; rw [strsA]; decide) (by show ∀ s ∈ tA.strs, _; rw [strsA]; simp)
  have e1 : tB.id = 3 := rfl
  have e2 : decide (tB.op = 1 ∨ tB.op = 3) = true := rfl
  have HP7 := Lib.hid hP7
  have HT7 := Lib.hid hT7
  have ID' := Lib.hid ID
  have WR' := Lib.hid WR
  have OB' := Lib.hid OB
  clear ID WR OB hT7 hP7 NX hch7 hfp7
  unfold tptr at *
  go_wp2_with fail
  refine ID'.out.mono ?_
  rintro e w' ⟨rfl, rfl⟩
  rw [e1]
  go_wp2_with fail
  refine WR'.out.mono ?_
  rintro e w' ⟨rfl, rfl⟩
  rw [e2]
  go_wp2_with fail
  refine OB'.out.mono ?_
  rintro e w8 ⟨v8, rfl, hS8, hB8⟩
  obtain ⟨A8, n8, c8, rfl⟩ := hS8.shape
  have OB2 := object_any b _ w8 (HT7.out.below hB8) (by show tA.strs.length ≤ 100; rw [strsA]; decide) (by show ∀ s ∈ tA.strs, _; rw [strsA]; simp)
  replace OB2 := Lib.hid OB2
  unfold tptr at OB2
  rw [e3]
  clear hS8
  have r1 := run_obj1
  have r3 := run_obj3
  go_wp2_with fail
  refine OB2.out.mono ?_
  rintro e w9 ⟨v9, rfl, hS9, hB9⟩
  obtain ⟨A9, n9, c9, rfl⟩ := hS9.shape
  obtain ⟨hn9, _, _, _⟩ := hS9.cell
  rw [e4] at hn9
  subst hn9
  have hB89 := hB8.trans (hB9.mono hB8.size)
  have FR := pfree_any p _ _ 0 w9 (HP7.out.below hB89)
  rw [st2] at FR
  replace FR := Lib.hid FR
  unfold pptr at FR
  clear hS9
  go_wp2_with fail
  refine FR.out.mono ?_
  rintro e w10 ⟨rfl, hB10⟩
  go_wp2
  go_ret
  exact ⟨rfl, hBw7.trans ((hB89.trans (hB10.mono hB89.size)).mono hBw7.size)⟩
end Go.Proofs.YtblddkjdglliaaaGreatDoor
