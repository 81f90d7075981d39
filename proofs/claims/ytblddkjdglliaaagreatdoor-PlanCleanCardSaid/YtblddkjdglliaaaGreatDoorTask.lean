/- Contracts: task.Check, Task.ID, Task.Op, Task.Key, Task.Writes. -/
import Derived.Test.YtblddkjdglliaaaGreatDoorNum
namespace Go.Proofs.YtblddkjdglliaaaGreatDoor
open Go.RowKit

def checkN (op : Int) (kl n : Nat) : Int :=
  if op < 1 ∨ 4 < op then 1 else if op ≠ 4 ∧ (kl < 1 ∨ 16 < kl) then 5 else if op = 1 ∧ 96 < n then 4 else 0

set_option maxRecDepth 100000 in
set_option maxHeartbeats 400000 in
theorem check_any' (op : Int) (s : ByteArray) (A : Option Addr) (n c : Nat) (w : World) :
    Calls Tryz.prog 22 #[.int .i64 op, .string s, .slice A n c] w fun e w' => e = .returned (.int .i64 (checkN op s.size n)) ∧ w = w' := by
  obtain ⟨q, hq⟩ : ∃ q, s.size = q := ⟨_, rfl⟩
  unfold checkN
  rw [hq]
  by_cases h1 : op < 1
  · rw [if_pos (.inl h1)]
    go_enter Tryz.func22, Tryz.ntmps22
    go_wp2
    go_ret
    exact ⟨rfl, rfl⟩
  by_cases h2 : 4 < op
  · rw [if_pos (.inr h2)]
    go_enter Tryz.func22, Tryz.ntmps22
    go_wp2
    go_ret
    exact ⟨rfl, rfl⟩
  rw [if_neg (by omega)]
  by_cases h3 : op = 4
  · subst h3
    rw [if_neg (by omega), if_neg (by omega)]
    go_enter Tryz.func22, Tryz.ntmps22
    go_wp2
    go_ret
    exact ⟨rfl, rfl⟩
  have e4 : (op != 4) = true := by simpa using h3
  by_cases h4 : q < 1
  · rw [if_pos ⟨h3, .inl h4⟩]
    obtain rfl : q = 0 := by omega
    go_enter Tryz.func22, Tryz.ntmps22
    go_wp2
    go_ret
    exact ⟨rfl, rfl⟩
  have d4 : decide ((q : Int) < 1) = false := decide_eq_false (by omega)
  by_cases h5 : 16 < q
  · rw [if_pos ⟨h3, .inr h5⟩]
    have d5 : decide (16 < (q : Int)) = true := decide_eq_true (by omega)
    go_enter Tryz.func22, Tryz.ntmps22
    go_wp2
    go_ret
    exact ⟨rfl, rfl⟩
  have d5 : decide (16 < (q : Int)) = false := decide_eq_false (by omega)
  rw [if_neg (by omega)]
  by_cases h6 : op = 1
  · subst h6
    by_cases h7 : 96 < n
    · rw [if_pos ⟨rfl, h7⟩]
      have d6 : decide (96 < (n : Int)) = true := decide_eq_true (by omega)
      go_enter Tryz.func22, Tryz.ntmps22
      go_wp2
      go_ret
      exact ⟨rfl, rfl⟩
    · rw [if_neg (by omega)]
      have d6 : decide (96 < (n : Int)) = false := decide_eq_false (by omega)
      go_enter Tryz.func22, Tryz.ntmps22
      go_wp2
      go_ret
      exact ⟨rfl, rfl⟩
  · rw [if_neg (by omega)]
    have e6 : (op == 1) = false := by simpa using h6
    go_enter Tryz.func22, Tryz.ntmps22
    go_wp2
    go_ret
    exact ⟨rfl, rfl⟩

/-- A task's cells. -/
def taskCells (id op : Int) (key : ByteArray) (dv : Value) (ok : ByteArray) (oid osz : Int) (sv : Value) (pl : Bool) (at_ : Int) : Array Value :=
  #[.int .i64 id, .int .i64 op, .string key, dv, .string ok, .int .i64 oid, .int .i64 osz, sv, .bool pl, .int .i64 at_]
def tptr (b : Nat) : Value := .pointer (some ⟨b, 0, none⟩)
set_option maxRecDepth 100000 in
theorem op_nil (w : World) : Calls Tryz.prog 24 #[.pointer none] w fun e w' => e = .returned (.int .i64 0) ∧ w = w' := by
  go_enter Tryz.func24, Tryz.ntmps24
  go_wp2
  go_ret
  exact ⟨rfl, rfl⟩
set_option maxRecDepth 100000 in
theorem op_any (b : Nat) (id op : Int) (key : ByteArray) (dv : Value) (ok : ByteArray) (oid osz : Int) (sv : Value) (pl : Bool) (at_ : Int) (w : World)
    (h : w.heap[b]? = some (.cells (taskCells id op key dv ok oid osz sv pl at_) 90 (0, 0))) :
    Calls Tryz.prog 24 #[tptr b] w fun e w' => e = .returned (.int .i64 op) ∧ w = w' := by
  have c1 : w.cell? ⟨b, 1, none⟩ = some (.int .i64 op) := by rw [cell_of_blk h]; rfl
  unfold tptr
  clear h
  go_enter Tryz.func24, Tryz.ntmps24
  go_wp2
  go_ret
  exact ⟨rfl, rfl⟩
set_option maxRecDepth 100000 in
theorem id_nil (w : World) : Calls Tryz.prog 23 #[.pointer none] w fun e w' => e = .returned (.int .i64 0) ∧ w = w' := by
  go_enter Tryz.func23, Tryz.ntmps23
  go_wp2
  go_ret
  exact ⟨rfl, rfl⟩
set_option maxRecDepth 100000 in
theorem id_any (b : Nat) (id op : Int) (key : ByteArray) (dv : Value) (ok : ByteArray) (oid osz : Int) (sv : Value) (pl : Bool) (at_ : Int) (w : World)
    (h : w.heap[b]? = some (.cells (taskCells id op key dv ok oid osz sv pl at_) 90 (0, 0))) :
    Calls Tryz.prog 23 #[tptr b] w fun e w' => e = .returned (.int .i64 id) ∧ w = w' := by
  have c1 : w.cell? ⟨b, 0, none⟩ = some (.int .i64 id) := by rw [cell_of_blk h]; rfl
  unfold tptr
  clear h
  go_enter Tryz.func23, Tryz.ntmps23
  go_wp2
  go_ret
  exact ⟨rfl, rfl⟩
set_option maxRecDepth 100000 in
theorem key_nil (w : World) : Calls Tryz.prog 25 #[.pointer none] w fun e w' => e = .returned (.string ByteArray.empty) ∧ w = w' := by
  go_enter Tryz.func25, Tryz.ntmps25
  go_wp2
  go_ret
  exact ⟨rfl, rfl⟩
set_option maxRecDepth 100000 in
theorem key_any (b : Nat) (id op : Int) (key : ByteArray) (dv : Value) (ok : ByteArray) (oid osz : Int) (sv : Value) (pl : Bool) (at_ : Int) (w : World)
    (h : w.heap[b]? = some (.cells (taskCells id op key dv ok oid osz sv pl at_) 90 (0, 0))) :
    Calls Tryz.prog 25 #[tptr b] w fun e w' => e = .returned (.string key) ∧ w = w' := by
  have c1 : w.cell? ⟨b, 2, none⟩ = some (.string key) := by rw [cell_of_blk h]; rfl
  unfold tptr
  clear h
  go_enter Tryz.func25, Tryz.ntmps25
  go_wp2
  go_ret
  exact ⟨rfl, rfl⟩
set_option maxRecDepth 100000 in
theorem writes_of (v : Value) (op : Int) (w : World) (h : Calls Tryz.prog 24 #[v] w fun e w' => e = .returned (.int .i64 op) ∧ w = w') :
    Calls Tryz.prog 26 #[v] w fun e w' => e = .returned (.bool (decide (op = 1 ∨ op = 3))) ∧ w = w' := by
  have H := Lib.hid h
  clear h
  by_cases h1 : op = 1
  · subst h1
    go_enter Tryz.func26, Tryz.ntmps26
    go_wp2_with (go_at_call 24; refine H.out.mono ?_; rintro e w' ⟨rfl, rfl⟩)
    go_ret
    exact ⟨rfl, rfl⟩
  by_cases h3 : op = 3
  · subst h3
    go_enter Tryz.func26, Tryz.ntmps26
    go_wp2_with (go_at_call 24; refine H.out.mono ?_; rintro e w' ⟨rfl, rfl⟩)
    go_ret
    exact ⟨rfl, rfl⟩
  · have hd : decide (op = 1 ∨ op = 3) = false := decide_eq_false (by omega)
    rw [hd]
    have e1 : (op == 1) = false := by simpa using h1
    have e3 : (op == 3) = false := by simpa using h3
    go_enter Tryz.func26, Tryz.ntmps26
    go_wp2_with (go_at_call 24; refine H.out.mono ?_; rintro e w' ⟨rfl, rfl⟩)
    go_ret
    exact ⟨rfl, rfl⟩
end Go.Proofs.YtblddkjdglliaaaGreatDoor
