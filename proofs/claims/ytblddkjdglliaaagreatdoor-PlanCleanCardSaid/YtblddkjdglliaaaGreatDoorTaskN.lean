/- A task in memory; contracts: task.New, Task.Object. -/
import Derived.Test.YtblddkjdglliaaaGreatDoorTask
import Derived.Test.YtblddkjdglliaaaGreatDoorStripe

namespace Go.Proofs.YtblddkjdglliaaaGreatDoor
open Go.RowKit

structure TaskM where
  id : Int
  op : Int
  key : ByteArray
  data : List Int
  okey : ByteArray
  oid : Int
  osz : Int
  strs : List StripeM
  planned : Bool
  at_ : Int
def newT (id op : Int) (key : ByteArray) (data : List Int) : TaskM := ⟨id, op, key, data, ⟨#[]⟩, 0, 0, [], false, 0⟩
def TaskM.cells (t : TaskM) (dv sv : Value) : Array Value := taskCells t.id t.op t.key dv t.okey t.oid t.osz sv t.planned t.at_
/-- The task t at block b. -/
def IsTask (w : World) (b : Nat) (t : TaskM) : Prop := ∃ dv sv, w.heap[b]? = some (.cells (t.cells dv sv) 90 (0, 0)) ∧ HB w dv t.data ∧ HS w 0 sv t.strs
theorem IsTask.keep {w w' : World} {b : Nat} {t : TaskM} (h : IsTask w b t) (hk : ∀ (b : Nat) (cur : Array Value) (t : TypeId) (fr : Nat × Nat), t = 3 ∨ t = 36 ∨ t = 5 ∨ t = 90 → w.heap[b]? = some (.cells cur t fr) → w'.heap[b]? = some (.cells cur t fr)) : IsTask w' b t := by
  obtain ⟨dv, sv, h1, h2, h3⟩ := h
  refine ⟨dv, sv, hk _ _ _ _ (.inr (.inr (.inr rfl))) h1, h2.keep fun _ _ _ k => hk _ _ _ _ (.inr (.inr (.inl rfl))) k, h3.keep fun _ _ _ _ ht k => hk _ _ _ _ ?_ k⟩
  rcases ht with h | h
  · exact .inl h
  · exact .inr (.inl h)
theorem IsTask.below {w w' : World} {b : Nat} {t : TaskM} (h : IsTask w b t) (hb : Below w.heap.size w w') : IsTask w' b t := h.keep fun _ _ _ _ _ k => below_blk hb k
theorem IsTask.lt {w : World} {b : Nat} {t : TaskM} (h : IsTask w b t) : b < w.heap.size := by obtain ⟨_, _, h, _⟩ := h; exact blk_lt h
theorem IsTask.op_ {w : World} {b : Nat} {t : TaskM} (h : IsTask w b t) : Calls Tryz.prog 24 #[tptr b] w fun e w' => e = .returned (.int .i64 t.op) ∧ w = w' := by
  obtain ⟨dv, sv, h1, _⟩ := h
  exact op_any b _ _ _ _ _ _ _ _ _ _ w h1
theorem IsTask.id_ {w : World} {b : Nat} {t : TaskM} (h : IsTask w b t) : Calls Tryz.prog 23 #[tptr b] w fun e w' => e = .returned (.int .i64 t.id) ∧ w = w' := by
  obtain ⟨dv, sv, h1, _⟩ := h
  exact id_any b _ _ _ _ _ _ _ _ _ _ w h1
theorem IsTask.key_ {w : World} {b : Nat} {t : TaskM} (h : IsTask w b t) : Calls Tryz.prog 25 #[tptr b] w fun e w' => e = .returned (.string t.key) ∧ w = w' := by
  obtain ⟨dv, sv, h1, _⟩ := h
  exact key_any b _ _ _ _ _ _ _ _ _ _ w h1

set_option maxRecDepth 100000 in
set_option maxHeartbeats 400000 in
theorem new_bad (id op : Int) (key : ByteArray) (A : Option Addr) (n c : Nat) (w : World) (h : checkN op key.size n ≠ 0) :
    Calls Tryz.prog 13 #[.int .i64 id, .int .i64 op, .string key, .slice A n c] w fun e w' => e = .returned (.pointer none) ∧ w = w' := by
  have CH := check_any' op key A n c w
  generalize checkN op key.size n = x at *
  have hx : (x != 0) = true := by simpa using h
  go_enter Tryz.func13, Tryz.ntmps13
  go_wp2_with (go_at_call 22; refine CH.mono ?_; rintro e w' ⟨rfl, rfl⟩)
  go_ret
  exact ⟨rfl, rfl⟩
set_option maxRecDepth 100000 in
set_option maxHeartbeats 400000 in
theorem new_ok (id op : Int) (key : ByteArray) (A : Option Addr) (n c : Nat) (w : World) (R : Value → World → Prop) (h : checkN op key.size n = 0)
    (CL : Calls Tryz.prog 46 #[.slice A n c] w fun e w' => ∃ A' n' c', e = .returned (.slice A' n' c') ∧ R (.slice A' n' c') w' ∧ Below w.heap.size w w') :
    Calls Tryz.prog 13 #[.int .i64 id, .int .i64 op, .string key, .slice A n c] w fun e w' => ∃ w2 v', e = .returned (tptr w2.heap.size) ∧ w' = w2.alloc (.cells (taskCells id op key v' ⟨#[]⟩ 0 0 (.slice none 0 0) false 0) 90) ∧ R v' w2 ∧ Below w.heap.size w w2 := by
  have CH := check_any' op key A n c w
  rw [h] at CH
  replace CL := Lib.hid CL
  go_enter Tryz.func13, Tryz.ntmps13
  go_wp2_with (first
    | (go_at_call 22; refine CH.mono ?_; rintro e w' ⟨rfl, rfl⟩)
    | (go_at_call 46; refine CL.out.mono ?_; rintro e w' ⟨A', n', c', rfl, hR, hB⟩))
  go_ret
  exact ⟨_, _, rfl, rfl, hR, hB⟩
/-- New: what a client may ask for. -/
theorem new_any (id op : Int) (key : ByteArray) (v : Value) (bs : List Int) (w : World) (hb : HB w v bs) (h : checkN op key.size bs.length = 0) :
    Calls Tryz.prog 13 #[.int .i64 id, .int .i64 op, .string key, v] w fun e w' => ∃ b, e = .returned (tptr b) ∧ IsTask w' b (newT id op key bs) ∧ w.heap.size ≤ b ∧ Below w.heap.size w w' := by
  have CL := clone_any v bs w hb
  have hb' := hb
  obtain ⟨A, c, rfl, _⟩ := hb'
  refine (new_ok id op key A bs.length c w (fun v w' => HB w' v bs) h (CL.mono ?_)).mono ?_
  · rintro e w' ⟨v', rfl, _, hh, hB⟩
    obtain ⟨A', n', c', rfl⟩ := hh.shape
    exact ⟨_, _, _, rfl, hh, hB⟩
  · rintro e w' ⟨w2, v', rfl, rfl, hh, hB⟩
    exact ⟨_, rfl, ⟨v', .slice none 0 0, heap_alloc_new w2 _, hh.below ((Below.refl _ w2).alloc (Nat.le_refl _) _), HS.nil _ _⟩, hB.size, hB.trans (((Below.refl _ w2).alloc (Nat.le_refl _) _).mono hB.size)⟩

set_option maxRecDepth 100000 in
set_option maxHeartbeats 400000 in
theorem object_any (b : Nat) (t : TaskM) (w : World) (h : IsTask w b t) (hl : t.strs.length ≤ 100) (hl2 : ∀ s ∈ t.strs, s.locs.length ≤ 1000) :
    Calls Tryz.prog 17 #[tptr b] w fun e w' => ∃ v', e = .returned (.agg #[.string t.okey, .int .i64 t.oid, .int .i64 t.osz, v']) ∧ HS w' w.heap.size v' t.strs ∧ Below w.heap.size w w' := by
  obtain ⟨dv, sv, h1, _, h3⟩ := h
  have OW := fun W hB => recOwn_any t.okey t.oid t.osz sv t.strs 0 W (h3.below hB) hl hl2
  replace OW := Lib.hid OW
  obtain ⟨A, n, c, rfl⟩ := h3.shape
  unfold TaskM.cells taskCells at h1
  obtain ⟨o, ho⟩ : ∃ o, Obj.cells #[.string ⟨#[]⟩, .int .i64 0, .int .i64 0, .slice none 0 0] 32 (0, 0) = o := ⟨_, rfl⟩
  have h1' := blk_alloc h1 o
  have c4 : (w.alloc o).cell? ⟨b, 4, none⟩ = some (.string t.okey) := by rw [cell_of_blk h1']; rfl
  have c5 : (w.alloc o).cell? ⟨b, 5, none⟩ = some (.int .i64 t.oid) := by rw [cell_of_blk h1']; rfl
  have c6 : (w.alloc o).cell? ⟨b, 6, none⟩ = some (.int .i64 t.osz) := by rw [cell_of_blk h1']; rfl
  have c7 : (w.alloc o).cell? ⟨b, 7, none⟩ = some (.slice A n c) := by rw [cell_of_blk h1']; rfl
  rw [← ho] at c4 c5 c6 c7
  clear h1 h3 h1' ho
  unfold tptr
  go_enter Tryz.func17, Tryz.ntmps17
  go_wp2_with fail
  obtain ⟨W1, hW1⟩ : ∃ W, w.alloc (.cells #[.string ⟨#[]⟩, .int .i64 0, .int .i64 0, .slice none 0 0] 32) = W := ⟨_, rfl⟩
  have hb1 : W1.heap[w.heap.size]? = some (.cells #[.string ⟨#[]⟩, .int .i64 0, .int .i64 0, .slice none 0 0] 32 (0, 0)) := by rw [← hW1]; exact heap_alloc_new w _
  have hB1 : Below w.heap.size w W1 := by rw [← hW1]; exact (Below.refl _ w).alloc (Nat.le_refl _) _
  rw [hW1] at c4 c5 c6 c7 ⊢
  clear hW1 c4 c5 c6 c7
  refine (OW.out W1 hB1).mono ?_
  rintro e W2 ⟨v2, rfl, hS2, hB2⟩
  obtain ⟨A2, n2, c2, rfl⟩ := hS2.shape
  have hc2 := below_blk hB2 hb1
  have hBw := hB1.trans (hB2.mono hB1.size)
  have hz := hB1.size
  obtain ⟨q, hq⟩ : ∃ q, w.heap.size = q := ⟨_, rfl⟩
  rw [hq] at hc2 hz ⊢
  have HQ := Lib.hid hq
  have n0 : W2.cell? ⟨q, 0, none⟩ = some (.string ⟨#[]⟩) := by rw [cell_of_blk hc2]; rfl
  have n1 : W2.cell? ⟨q, 1, none⟩ = some (.int .i64 0) := by rw [cell_of_blk hc2]; rfl
  have n2' : W2.cell? ⟨q, 2, none⟩ = some (.int .i64 0) := by rw [cell_of_blk hc2]; rfl
  have n3 : W2.cell? ⟨q, 3, none⟩ = some (.slice none 0 0) := by rw [cell_of_blk hc2]; rfl
  have g0 := frozen_of_blk hc2 0
  have g1 := frozen_of_blk hc2 1
  have g2 := frozen_of_blk hc2 2
  have g3 := frozen_of_blk hc2 3
  have HC2 := Lib.hid hc2
  replace hS2 := Lib.hid hS2
  clear hc2 hq hb1
  go_wp2
  have hfin := blk_setCell (blk_setCell (blk_setCell (blk_setCell HC2.out 0 (.string t.okey)) 1 (.int .i64 t.oid)) 2 (.int .i64 t.osz)) 3 (.slice A2 n2 c2)
  have hch : Chg (fun k => k = q) W2 ((((W2.setCell ⟨q, 0, none⟩ (.string t.okey)).setCell ⟨q, 1, none⟩ (.int .i64 t.oid)).setCell ⟨q, 2, none⟩ (.int .i64 t.osz)).setCell ⟨q, 3, none⟩ (.slice A2 n2 c2)) :=
    (((Chg.setCell (O := fun k => k = q) (a := ⟨q, 0, none⟩) rfl _).then_setCell (a := ⟨q, 1, none⟩) (.inl rfl) _).then_setCell (a := ⟨q, 2, none⟩) (.inl rfl) _).then_setCell (a := ⟨q, 3, none⟩) (.inl rfl) _
  refine bodyPost_ret (results_cell_row rfl _ _ q 32 _ (0, 0) _ rfl hfin Tryz.underlying32 rfl (by kernel_rfl)) rfl ?_
  refine ⟨_, rfl, (hS2.out.chg hch ?_).mono (by rw [HQ.out]; exact hz), hBw.trans (hch.to_below hBw.size fun k hk => by rw [HQ.out]; omega)⟩
  rintro b cur t fr ht rfl e
  rw [HC2.out] at e; cases e; rcases ht with h | h <;> cases h
end Go.Proofs.YtblddkjdglliaaaGreatDoor
