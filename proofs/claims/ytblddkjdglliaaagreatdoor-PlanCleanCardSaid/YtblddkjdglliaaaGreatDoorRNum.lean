/- Contracts: the reference's Num, Read, rot. -/
import Derived.Test.YtblddkjdglliaaaGreatDoorSum
namespace Go.Proofs.YtblddkjdglliaaaGreatDoor
open Go.RowKit

/-- The last j bytes of the number are laid. -/
def numK (v : Int) (n j : Nat) : List Int := (List.range n).map fun k => if n - j ≤ k then v / 2 ^ (8 * (n - 1 - k)) % 256 else 0
theorem numK_length (v : Int) (n j : Nat) : (numK v n j).length = n := by simp [numK]
theorem numK_zero (v : Int) (n : Nat) : numK v n 0 = List.replicate n 0 := by
  unfold numK
  apply List.ext_getElem (by simp)
  intro i h1 h2
  have : i < n := by simpa using h2
  simp; omega
theorem numK_full (v : Int) (n : Nat) : numK v n n = putL v n := by
  unfold numK putL
  apply List.map_congr_left
  intro k _
  rw [if_pos (by omega)]
theorem numK_get (v : Int) (n j i : Nat) (h : i < (numK v n j).length) : (numK v n j)[i] = if n - j ≤ i then v / 2 ^ (8 * (n - 1 - i)) % 256 else 0 := by simp [numK]
theorem numK_set (v : Int) (n j : Nat) (h : j < n) : (numK v n j).set (n - 1 - j) (v / 2 ^ (8 * j) % 256) = numK v n (j + 1) := by
  apply List.ext_getElem (by simp [numK])
  intro i h1 h2
  have hi : i < n := by simpa [numK] using h2
  rw [List.getElem_set, numK_get, numK_get]
  by_cases e : n - 1 - j = i
  · rw [if_pos e, if_pos (show n - (j + 1) ≤ i by omega)]
    rw [show n - 1 - i = j by omega]
  · rw [if_neg e]
    by_cases e2 : n - j ≤ i
    · rw [if_pos e2, if_pos (show n - (j + 1) ≤ i by omega)]
    · rw [if_neg e2, if_neg (show ¬ n - (j + 1) ≤ i by omega)]
theorem shift_next (v : Int) (j : Nat) : v / 2 ^ (8 * j) / 256 = v / 2 ^ (8 * (j + 1)) := by
  rw [show 8 * (j + 1) = 8 * j + 8 by omega, Int.pow_add, ← Int.ediv_ediv_of_nonneg (Int.le_of_lt (Int.pow_pos (by decide)))]
  rfl

set_option maxRecDepth 100000 in
set_option maxHeartbeats 400000 in
theorem refNum_any (v : Int) (n : Nat) (w : World) (hv : 0 ≤ v ∧ v ≤ 18446744073709551615) (hn1 : 1 ≤ n) (hn : n ≤ 8) :
    Calls Tryz.prog 130 #[.int .u64 v, .int .i64 n] w fun e w' => ∃ v', e = .returned v' ∧ w'.ownsRow w.heap.size 5 1 v' n (ints .u8 (putL v n)) ∧ Below w.heap.size w w' := by
  go_enter Tryz.func130, Tryz.ntmps130
  go_wp2_with (at_make; refine make_arm (z := .int .u8 0) (bytes := 1) Tryz.underlying22 (by kernel_rfl) rfl _ rfl (.tmp 7) (.tmp 7) rfl n rfl rfl rfl rfl (by omega) (by unfold maxLen; omega) ?_; intro hown)
  obtain ⟨W1, hW1⟩ : ∃ W, w.alloc (.cells (madeCells #[.int .u8 0] n) 5) = W := ⟨_, rfl⟩
  have hB1 : Below w.heap.size w W1 := by rw [← hW1]; exact (Below.refl _ _).alloc (Nat.le_refl _) _
  rw [hW1] at hown ⊢
  obtain ⟨g, hg⟩ : ∃ g, w.heap.size = g := ⟨_, rfl⟩
  have hown1 : W1.ownsRow g 5 1 (.slice (some ⟨g, 0, none⟩) n n) n (ints .u8 (numK v n 0)) := by
    rw [numK_zero, ← hg]
    simpa [ints] using hown
  rw [hg]
  replace hown1 := Lib.hid hown1
  replace hg := Lib.hid hg
  clear hown hW1
  go_loopw [0, 6] (fun x i wr => ∃ j : Nat, j ≤ n ∧ x = .int .u64 (v / 2 ^ (8 * j)) ∧ i = .int .i64 ((n : Int) - 1 - j) ∧ wr.ownsRow g 5 1 (.slice (some ⟨g, 0, none⟩) n n) n (ints .u8 (numK v n j)) ∧ Below w.heap.size w wr) (fun _ i _ => (intOf i + 1).toNat)
  case atStart => exact ⟨0, by omega, by simp, by simp, hown1.out, hB1⟩
  case round =>
    obtain ⟨j, hj, rfl, rfl, ho, hB⟩ := hrel
    obtain ⟨g', cur, e, _, hge, _, hblk, hcs, _, hcell⟩ := own_pos ho (by omega)
    cases e
    have hx0 : 0 ≤ v / 2 ^ (8 * j) := Int.ediv_nonneg hv.1 (Int.le_of_lt (Int.pow_pos (by decide)))
    have hxu : v / 2 ^ (8 * j) ≤ v := Int.ediv_le_self _ hv.1
    have hnx := shift_next v j
    by_cases hlt : j < n
    · obtain ⟨p, hp⟩ : ∃ p : Nat, n - 1 - j = p := ⟨_, rfl⟩
      have hpI : (n : Int) - 1 - j = (p : Int) := by omega
      have hset := numK_set v n j hlt
      rw [hp] at hset
      rw [hpI]
      have hc := hcell p (by omega)
      rw [ints_get _ _ _ (by rw [numK_length]; omega)] at hc
      have hf := frozen_of_blk hblk p
      have hst := ho.stored p (.int .u8 (v / 2 ^ (8 * j) % 256))
      have hglt := blk_lt hblk
      have hpn : p < n := by omega
      have hpi : (p : Int) < n := by omega
      have hnext : (n : Int) - 1 - ((j + 1 : Nat) : Int) = (p : Int) - 1 := by omega
      replace hset := Lib.hid hset
      replace hst := Lib.hid hst.1
      replace hnx := Lib.hid hnx
      replace hnext := Lib.hid hnext
      clear hp hcell ho hcs hblk hpI
      generalize (numK v n j)[p]?.getD 0 = y at *
      generalize v / 2 ^ (8 * j) = x at *
      go_wp2
      refine ⟨⟨j + 1, by omega, by rw [hnx.out], by rw [hnext.out], ?_, hB.setCell (by rw [hg.out]; exact Nat.le_refl _) _⟩, by simp [intOf]⟩
      rw [← hset.out]
      have := hst.out
      simpa [ints, List.map_set] using this
    · obtain rfl : j = n := by omega
      rw [numK_full] at ho
      have hneg : (j : Int) - 1 - j = -1 := by omega
      rw [hneg]
      clear hneg hcell hnx
      generalize v / 2 ^ (8 * j) = x at *
      replace ho := Lib.hid ho
      go_wp2
      go_ret
      rw [hg.out]
      exact ⟨_, rfl, ho.out, hg.out ▸ hB⟩

theorem getN_step2 (bs : List Int) (k : Nat) (hk : k < bs.length) (h8 : bs.length ≤ 8) (h : ∀ x ∈ bs, 0 ≤ x ∧ x ≤ 255) :
    getN (bs.take (k + 1)) = getN (bs.take k) * 256 + bs[k]?.getD 0 ∧ 0 ≤ getN (bs.take k) ∧ getN (bs.take k) < 72057594037927936 := by
  have h1 := getN_nonneg (bs.take k) fun x hx => h x (List.mem_of_mem_take hx)
  have h3 : (256 : Int) ^ (bs.take k).length ≤ 256 ^ 7 := by
    rw [List.length_take, Nat.min_eq_left (by omega)]
    exact pow256_le k 7 (by omega)
  refine ⟨by rw [take_snoc bs k hk 0, getN_snoc], h1.1, ?_⟩
  have : (256 : Int) ^ 7 = 72057594037927936 := by decide
  omega
set_option maxRecDepth 100000 in
set_option maxHeartbeats 400000 in
theorem refRead_any (v : Value) (bs : List Int) (w : World) (h : HB w v bs) (h8 : bs.length ≤ 8) :
    Calls Tryz.prog 128 #[v] w fun e w' => e = .returned (.int .u64 (getN bs)) ∧ w = w' := by
  obtain ⟨A, c, rfl, _⟩ := id h
  obtain ⟨n, hn⟩ : ∃ n, bs.length = n := ⟨_, rfl⟩
  have hstep := getN_step2 bs
  rw [hn] at h h8 ⊢
  obtain ⟨hq, hnc, hc⟩ := h.cell
  have H := Lib.hid hn; clear hn hq
  have HS := Lib.hid hstep; clear hstep
  go_enter Tryz.func128, Tryz.ntmps128
  go_wp2
  go_loop [3, 4] (fun u i => ∃ k : Nat, k ≤ n ∧ i = .int .i64 k ∧ u = .int .u64 (getN (bs.take k))) (fun _ i => n - (intOf i).toNat)
  case atStart => exact ⟨0, by omega, rfl, by simp [getN]⟩
  case round =>
    obtain ⟨k, hk, rfl, rfl⟩ := hrel
    by_cases hlt : k < n
    · obtain ⟨b, o, rfl, hcell⟩ := hc k hlt
      have h1 := h.at_ k
      obtain ⟨h2, h3, h4⟩ := HS.out k (by rw [H.out]; exact hlt) (by rw [H.out]; exact h8) h.range
      have H2 := Lib.hid h2
      clear hc h2
      generalize getN (bs.take k) = y at *
      generalize bs[k]?.getD 0 = z at *
      go_wp2
      exact ⟨⟨k + 1, by omega, by go_num, by rw [H2.out]⟩, by simp [intOf]; omega⟩
    · go_wp2
      go_ret
      have hk' : k = n := by omega
      subst hk'
      rw [List.take_of_length_le (by rw [H.out]; omega)]
      exact ⟨rfl, rfl⟩

set_option maxRecDepth 100000 in
set_option maxHeartbeats 400000 in
theorem rot_any (v : Int) (n : Nat) (w : World) (_h0 : 0 ≤ v ∧ v ≤ 4294967295) (hn : 1 ≤ n ∧ n ≤ 31) :
    Calls Tryz.prog 161 #[.int .u32 v, .int .u64 n] w fun e w' => e = .returned (.int .u32 (rotN v n)) ∧ ∃ m, w' = w.drewN m := by
  unfold rotN
  have hq : IntKind.u64.wrap (32 - (n : Int)) = ((32 - n : Nat) : Int) := by rw [show (32 - (n : Int)) = ((32 - n : Nat) : Int) by omega]; exact IntWalk.u64_in _ (by omega)
  generalize 32 - n = k at *
  go_enter Tryz.func161, Tryz.ntmps161
  go_wp2
  go_ret
  exact ⟨rfl, 0, rfl⟩
end Go.Proofs.YtblddkjdglliaaaGreatDoor
