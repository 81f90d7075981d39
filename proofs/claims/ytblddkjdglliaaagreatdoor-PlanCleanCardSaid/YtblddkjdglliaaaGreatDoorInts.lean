/- Slices that read as ints; slices.Clip, rank.Targets (given hash.Weight's contract), rec.Clone. -/
import Derived.Test.YtblddkjdglliaaaGreatDoorOrder
namespace Go.Proofs.YtblddkjdglliaaaGreatDoor
open Go.RowKit

/-- The value v is a slice that reads as the numbers xs (cells alone). -/
def HC (w : World) (v : Value) (xs : List Int) : Prop :=
  ∃ A c, v = .slice A xs.length c ∧ xs.length ≤ c ∧ c ≤ 9223372036854775807 ∧ (0 < xs.length → ∃ b o, A = some ⟨b, o, none⟩ ∧ ∀ i, i < xs.length → w.cell? ⟨b, o + i, none⟩ = some (.int .i64 (xs[i]?.getD 0)))
/-- The same, in a block of ints. -/
def HI (w : World) (v : Value) (xs : List Int) : Prop :=
  ∃ A c, v = .slice A xs.length c ∧ xs.length ≤ c ∧ c ≤ 9223372036854775807 ∧ (0 < xs.length → ∃ (b o : Nat) (cur : Array Value) (_ : Unit), A = some ⟨b, o, none⟩ ∧ w.heap[b]? = some (.cells cur 3 (0, 0)) ∧ ∀ i, i < xs.length → cur[o + i]? = some (.int .i64 (xs[i]?.getD 0)))
theorem HI.toC {w : World} {v : Value} {xs : List Int} (h : HI w v xs) : HC w v xs := by
  obtain ⟨A, c, h1, h2, h3, h4⟩ := h
  refine ⟨A, c, h1, h2, h3, fun hp => ?_⟩
  obtain ⟨b, o, cur, fr, e, hb, hc⟩ := h4 hp
  exact ⟨b, o, e, fun i hi => by rw [cell_of_blk hb, hc i hi]⟩
theorem HI.frozen {w : World} {b o n c : Nat} {xs : List Int} (h : HI w (.slice (some ⟨b, o, none⟩) n c) xs) (hp : 0 < xs.length) (i : Nat) : w.frozen? ⟨b, i, none⟩ = false := by
  obtain ⟨A, c', e, _, _, h4⟩ := h
  simp only [Value.slice.injEq] at e
  obtain ⟨rfl, _, _⟩ := e
  obtain ⟨b', o', cur, _, e, hb, _⟩ := h4 hp
  cases e
  exact frozen_of_blk hb i
theorem HI.nil (w : World) : HI w (.slice none 0 0) [] := ⟨none, 0, rfl, by simp, by decide, by simp⟩
theorem HI.keep {w w' : World} {v : Value} {xs : List Int} (h : HI w v xs) (hk : ∀ (b : Nat) (cur : Array Value) (fr : Nat × Nat), w.heap[b]? = some (.cells cur 3 fr) → w'.heap[b]? = some (.cells cur 3 fr)) : HI w' v xs := by
  obtain ⟨A, c, h1, h2, h3, h4⟩ := h
  refine ⟨A, c, h1, h2, h3, fun hp => ?_⟩
  obtain ⟨b, o, cur, fr, e, hb, hc⟩ := h4 hp
  exact ⟨b, o, cur, fr, e, hk _ _ _ hb, hc⟩
theorem HI.below {w w' : World} {v : Value} {xs : List Int} (h : HI w v xs) (hb : Below w.heap.size w w') : HI w' v xs := h.keep fun _ _ _ k => below_blk hb k
theorem HI.chg {O : Nat → Prop} {w w' : World} {v : Value} {xs : List Int} (h : HI w v xs) (hc : Chg O w w') (ho : ∀ (b : Nat) (cur : Array Value) (fr : Nat × Nat), O b → w.heap[b]? ≠ some (.cells cur 3 fr)) : HI w' v xs :=
  h.keep fun _ _ _ k => hc.blk k fun o => ho _ _ _ o k
theorem cell_lt {w : World} {a : Addr} {x : Value} (h : w.cell? a = some x) : a.block < w.heap.size := by
  unfold World.cell? at h
  rcases hq : w.heap[a.block]? with _ | o
  · simp [hq] at h
  · exact blk_lt hq
theorem HC.below {w w' : World} {v : Value} {xs : List Int} (h : HC w v xs) (hb : Below w.heap.size w w') : HC w' v xs := by
  obtain ⟨A, c, h1, h2, h3, h4⟩ := h
  refine ⟨A, c, h1, h2, h3, fun hp => ?_⟩
  obtain ⟨b, o, e, hc⟩ := h4 hp
  exact ⟨b, o, e, fun i hi => by rw [hb.cell (cell_lt (hc i hi)), hc i hi]⟩
theorem HC.shape {w : World} {v : Value} {xs : List Int} (h : HC w v xs) : ∃ A n c, v = .slice A n c := by obtain ⟨A, c, h, _⟩ := h; exact ⟨_, _, _, h⟩
theorem HI.shape {w : World} {v : Value} {xs : List Int} (h : HI w v xs) : ∃ A n c, v = .slice A n c := h.toC.shape
theorem HC.cell {w : World} {A : Option Addr} {n c : Nat} {xs : List Int} (h : HC w (.slice A n c) xs) : n = xs.length ∧ n ≤ c ∧ (∀ i, i < n → ∃ b o, A = some ⟨b, o, none⟩ ∧ w.cell? ⟨b, o + i, none⟩ = some (.int .i64 (xs[i]?.getD 0))) := by
  obtain ⟨A', c', h1, h2, h3, h6⟩ := h
  simp only [Value.slice.injEq] at h1
  obtain ⟨rfl, rfl, rfl⟩ := h1
  refine ⟨rfl, h2, fun i hi => ?_⟩
  obtain ⟨b, o, rfl, hc⟩ := h6 (by omega)
  exact ⟨b, o, rfl, hc i hi⟩
theorem HI.of_own {w : World} {B : Nat} {v : Value} {n : Nat} {xs : List Int} (h : w.ownsRow B 3 1 v n (ints .i64 xs)) : HI w v xs := by
  have hn : xs.length = n := by have := h.1; rw [ints_length] at this; omega
  subst hn
  obtain ⟨A, c, rfl, h1, h2⟩ := own_shape h
  refine ⟨A, c, rfl, h1, h2, fun hp => ?_⟩
  obtain ⟨g, cur, rfl, _, _, _, hb, _, ht, _⟩ := own_pos h hp
  refine ⟨g, 0, cur, (), rfl, hb, fun i hi => ?_⟩
  have := congrArg (fun l => l[i]?) ht
  simp only [List.getElem?_take, Nat.mul_one, if_pos hi, Array.getElem?_toList] at this
  rw [Nat.zero_add, this, ints_get _ _ _ hi]
/-- The first n of it, of room n. -/
theorem HI.clip {w : World} {A : Option Addr} {m c : Nat} {xs : List Int} (h : HI w (.slice A m c) xs) (n : Nat) (hn : n ≤ m) : HI w (.slice A n n) (xs.take n) := by
  obtain ⟨A', c', h1, h2, h3, h6⟩ := h
  simp only [Value.slice.injEq] at h1
  obtain ⟨rfl, rfl, rfl⟩ := h1
  have hl : (xs.take n).length = n := by simp; omega
  refine ⟨A, n, by rw [hl], by omega, by omega, fun hp => ?_⟩
  rw [hl] at hp
  obtain ⟨b, o, cur, fr, rfl, hb, hc⟩ := h6 (by omega)
  refine ⟨b, o, cur, fr, rfl, hb, fun i hi => ?_⟩
  rw [hl] at hi
  rw [hc i (by omega), List.getElem?_take, if_pos hi]
/-- The block that a slice lies in. -/
def blkOf : Value → Option Nat
  | .slice (some a) _ _ => some a.block
  | _ => none
def FreshV (B : Nat) (v : Value) : Prop := ∀ k, blkOf v = some k → B ≤ k
theorem FreshV.of_own {w : World} {B e s n : Nat} {v : Value} {xs : List Value} (h : w.ownsRow B e s v n xs) : FreshV B v := by
  intro k hk
  rcases h.2 with ⟨rfl, _⟩ | ⟨g, cap, cur, rfl, hb, _⟩
  · simp [blkOf] at hk
  · simp [blkOf] at hk; omega

set_option maxRecDepth 100000 in
theorem clip_int (A : Option Addr) (n c : Nat) (w : World) (h : n ≤ c) :
    Calls Tryz.prog 91 #[.slice A n c] w fun e w' => e = .returned (.slice A n n) ∧ w = w' := by
  cases A
  all_goals
    go_enter Tryz.func91, Tryz.ntmps91
    go_wp2
    go_ret
    exact ⟨rfl, rfl⟩
set_option maxRecDepth 100000 in
theorem clip_stripe (A : Option Addr) (n c : Nat) (w : World) (h : n ≤ c) :
    Calls Tryz.prog 75 #[.slice A n c] w fun e w' => e = .returned (.slice A n n) ∧ w = w' := by
  cases A
  all_goals
    go_enter Tryz.func75, Tryz.ntmps75
    go_wp2
    go_ret
    exact ⟨rfl, rfl⟩
end Go.Proofs.YtblddkjdglliaaaGreatDoor
