/- Plain laws for TaskOwn: the first shard of two is the data's first bytes; a drive that has room takes it and gives it back. No condition. -/
import Derived.Test.YtblddkjdglliaaaGreatDoorModel
namespace Go.Proofs.YtblddkjdglliaaaGreatDoor
open Go.RowKit

theorem mul_one_u8 (y : Int) (h : 0 ≤ y ∧ y ≤ 255) : gfMul 1 y = y := by
  have key : ∀ y : Fin 256, gfMul 1 (y.val : Int) = (y.val : Int) := by decide +kernel
  have := key ⟨y.toNat, by omega⟩
  simpa [show ((y.toNat : Nat) : Int) = y by omega] using this
theorem mul_zero_u8 (y : Int) (h : 0 ≤ y ∧ y ≤ 255) : gfMul 0 y = 0 := by
  have key : ∀ y : Fin 256, gfMul 0 (y.val : Int) = 0 := by decide +kernel
  have := key ⟨y.toNat, by omega⟩
  simpa [show ((y.toNat : Nat) : Int) = y by omega] using this
theorem xor_zero_u8 (y : Int) (h : 0 ≤ y ∧ y ≤ 255) : bits .xor .u8 y 0 = y ∧ bits .xor .u8 0 y = y := by
  constructor
  · rw [u8_xor y 0 h.1 (by omega) (by decide) (by decide)]; simp; omega
  · rw [u8_xor 0 y (by decide) (by decide) h.1 (by omega)]; simp; omega
theorem addL_one (os : List Int) (n : Nat) (hn : os.length = n) (h : ∀ x ∈ os, 0 ≤ x ∧ x ≤ 255) : addL (List.replicate n 0) os 1 = os := by
  apply List.ext_getElem
  · simp [addL, addK_length, hn]
  · intro i h1 h2
    have hr := h _ (List.getElem_mem h2)
    simp only [addL, addK, List.getElem_map, List.getElem_range]
    rw [if_pos h2]
    unfold addAt
    rw [List.getElem?_eq_getElem h2, Option.getD_some, mul_one_u8 _ hr, List.getElem?_replicate, if_pos (by omega), Option.getD_some]
    exact (xor_zero_u8 _ hr).2
theorem addL_none (rs os : List Int) (hn : os.length = rs.length) (h : ∀ x ∈ os, 0 ≤ x ∧ x ≤ 255) (hr : ∀ x ∈ rs, 0 ≤ x ∧ x ≤ 255) : addL rs os 0 = rs := by
  apply List.ext_getElem
  · simp [addL, addK_length]
  · intro i h1 h2
    have h3 := hr _ (List.getElem_mem h2)
    have hi : i < os.length := by omega
    simp only [addL, addK, List.getElem_map, List.getElem_range]
    rw [if_pos hi]
    unfold addAt
    rw [List.getElem?_eq_getElem hi, Option.getD_some, mul_zero_u8 _ (h _ (List.getElem_mem hi)), List.getElem?_eq_getElem h2, Option.getD_some]
    exact (xor_zero_u8 _ h3).1
theorem shard_own (xs : List Int) (h0 : 0 < xs.length) (h16 : xs.length ≤ 16) (hr : ∀ x ∈ xs, 0 ≤ x ∧ x ≤ 255) : shardL 2 0 xs 0 0 = (xs ++ List.replicate 8 0).take 8 := by
  have hc : countN 2 xs.length = 1 := by
    unfold countN
    rw [if_neg (by omega), Nat.div_eq_of_lt (by omega)]
  have hpl : (padL 2 xs).length = 16 := by rw [padL_length 2 xs (by decide), hc]
  have hpr := padL_range 2 xs hr
  have hs : (splitL 2 xs)[0]?.getD [] = padL 2 xs := by
    unfold splitL
    rw [hc]
    show ((padL 2 xs).drop (0 * 16)).take 16 = _
    rw [Nat.zero_mul, List.drop_zero, List.take_of_length_le (by omega)]
  have hp8 : (padL 2 xs).take 8 = (xs ++ List.replicate 8 0).take 8 := by
    unfold padL
    apply List.ext_getElem?
    intro i
    rw [List.getElem?_take, List.getElem?_take]
    by_cases hi : i < 8
    · rw [if_pos hi, if_pos hi, hc]
      by_cases hx : i < xs.length
      · rw [List.getElem?_append_left hx, List.getElem?_append_left hx]
      · rw [List.getElem?_append_right (by omega), List.getElem?_append_right (by omega), List.getElem?_replicate, List.getElem?_replicate, if_pos (by omega), if_pos (by omega)]
    · rw [if_neg hi, if_neg hi]
  unfold shardL
  rw [hs]
  have hrow : (encL 2 0 (padL 2 xs))[0]?.getD [] = timesRow (chop 8 2 (padL 2 xs)) 8 (codeRow 2 0) := rfl
  have hcr : codeRow 2 0 = [1, 0] := by decide
  have hch : chop 8 2 (padL 2 xs) = [(padL 2 xs).take 8, ((padL 2 xs).drop 8).take 8] := by
    simp [chop, List.range, List.range.loop]
  rw [hrow, hcr, hch]
  show addL (addL (List.replicate 8 0) ((padL 2 xs).take 8) 1) (((padL 2 xs).drop 8).take 8) 0 = _
  have l1 : ((padL 2 xs).take 8).length = 8 := by simp; omega
  have l2 : (((padL 2 xs).drop 8).take 8).length = 8 := by simp; omega
  have r1 : ∀ x ∈ (padL 2 xs).take 8, 0 ≤ x ∧ x ≤ 255 := fun x hx => hpr x (List.mem_of_mem_take hx)
  have r2 : ∀ x ∈ ((padL 2 xs).drop 8).take 8, 0 ≤ x ∧ x ≤ 255 := fun x hx => hpr x (List.mem_of_mem_drop (List.mem_of_mem_take hx))
  rw [addL_one _ 8 l1 r1, addL_none _ _ (by rw [l2, l1]) r2 r1, hp8]
theorem own_store (j : Int) (hj : j = 0 ∨ j = 1) (bs : List Int) (hb : bs.length ≤ 50) : ∃ m, (PoolM.mk [newD 4, newD 4] (-1) false).store j 16 0 bs = (0, m) ∧ m.load j 16 0 = (0, bs) := by
  have go : ∀ n : Nat, (PoolM.mk [newD 4, newD 4] (-1) false).list[n]? = some (newD (4 : Nat)) → ∃ m, (PoolM.mk [newD 4, newD 4] (-1) false).store n 16 0 bs = (0, m) ∧ m.load n 16 0 = (0, bs) := by
    intro n hd
    obtain ⟨d', s1, s2, _⟩ := store_at (st := 16) (ps := 0) (bs := bs) hd (newD_ent 4 (by decide)) ⟨rfl, rfl⟩ (fun e he => by simp at he) (by decide) ⟨by decide, by decide, hb⟩
    exact ⟨_, s1, load_at (n := n) (list_set hd d') s2 0 (by simp) rfl (fun i hi => by omega)⟩
  rcases hj with rfl | rfl
  · exact go 0 rfl
  · exact go 1 rfl
end Go.Proofs.YtblddkjdglliaaaGreatDoor
