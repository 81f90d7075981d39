/- Plain laws: the reference's round of sha is the program's. No condition. -/
import Derived.Test.YtblddkjdglliaaaGreatDoorShaLaw
import Derived.Test.YtblddkjdglliaaaGreatDoorRNum
namespace Go.Proofs.YtblddkjdglliaaaGreatDoor
open Go.RowKit

theorem wideK_stable (bs : List Int) (k : Nat) : ∀ m, k < m → m ≤ 64 → (wideK bs m)[k]?.getD 0 = (wideK bs (k + 1))[k]?.getD 0
  | 0, h, _ => by omega
  | m + 1, h, h64 => by
    by_cases e : m = k
    · subst e; rfl
    · have ih := wideK_stable bs k m (by omega) (by omega)
      rw [← ih]
      show ((wideK bs m).set m (wval bs (wideK bs m) m))[k]?.getD 0 = _
      rw [List.getElem?_set, if_neg e]
theorem wideK_at (bs : List Int) (k : Nat) (h : k < 64) : (wideK bs (k + 1))[k]?.getD 0 = (wideK bs 64)[k]?.getD 0 := (wideK_stable bs k 64 h (by omega)).symm
/-- One round as the reference writes it. -/
def xN (s4 s5 s6 s7 k w : Int) : Int := ((((s7 + bits BinOp.xor IntKind.u32 (bits BinOp.xor IntKind.u32 (rotN s4 6) (rotN s4 11)) (rotN s4 25)) % 4294967296 + bits BinOp.xor IntKind.u32 (bits BinOp.and IntKind.u32 s4 s5) (bits BinOp.and IntKind.u32 (bits BinOp.xor IntKind.u32 s4 4294967295) s6)) % 4294967296 + k) % 4294967296 + w) % 4294967296
def yN (s0 s1 s2 : Int) : Int := (bits BinOp.xor IntKind.u32 (bits BinOp.xor IntKind.u32 (rotN s0 2) (rotN s0 13)) (rotN s0 22) + bits BinOp.xor IntKind.u32 (bits BinOp.xor IntKind.u32 (bits BinOp.and IntKind.u32 s0 s1) (bits BinOp.and IntKind.u32 s0 s2)) (bits BinOp.and IntKind.u32 s1 s2)) % 4294967296
theorem xN_up (s4 s5 s6 s7 k w : Int) (h4 : 0 ≤ s4 ∧ s4 ≤ 4294967295) (h5 : 0 ≤ s5 ∧ s5 ≤ 4294967295) (h6 : 0 ≤ s6 ∧ s6 ≤ 4294967295) : xN s4 s5 s6 s7 k w = upN s4 s5 s6 s7 ((w + k) % 4294967296) := by
  unfold xN upN
  rw [← bits_ch s4 s5 s6 h4 h5 h6]
  simp only [IntKind.wrap_u32]
  generalize bits BinOp.xor IntKind.u32 (bits BinOp.and IntKind.u32 s4 (bits BinOp.xor IntKind.u32 s5 s6)) s6 = a
  generalize bits BinOp.xor IntKind.u32 (bits BinOp.xor IntKind.u32 (rotN s4 6) (rotN s4 11)) (rotN s4 25) = b
  omega
theorem yN_on (s0 s1 s2 : Int) (h0 : 0 ≤ s0 ∧ s0 ≤ 4294967295) (h1 : 0 ≤ s1 ∧ s1 ≤ 4294967295) (h2 : 0 ≤ s2 ∧ s2 ≤ 4294967295) : yN s0 s1 s2 = onN s0 s1 s2 := by
  unfold yN onN
  rw [bits_maj s0 s1 s2 h0 h1 h2]
  simp only [IntKind.wrap_u32]
theorem bits_xor_comm (x y : Int) : bits BinOp.xor IntKind.u32 x y = bits BinOp.xor IntKind.u32 y x := by
  unfold bits
  dsimp only
  rw [BitVec.xor_comm]
theorem x_up (s4 s5 s6 s7 k w : Int) (h4 : 0 ≤ s4 ∧ s4 ≤ 4294967295) (h5 : 0 ≤ s5 ∧ s5 ≤ 4294967295) (h6 : 0 ≤ s6 ∧ s6 ≤ 4294967295) :
    (s7 + bits BinOp.xor IntKind.u32 (bits BinOp.xor IntKind.u32 (rotN s4 6) (rotN s4 11)) (rotN s4 25) + bits BinOp.xor IntKind.u32 (bits BinOp.and IntKind.u32 s4 s5) (bits BinOp.and IntKind.u32 (bits BinOp.xor IntKind.u32 IntKind.u32.max s4) s6) + k + w) % 4294967296 = upN s4 s5 s6 s7 ((w + k) % 4294967296) := by
  rw [← xN_up s4 s5 s6 s7 k w h4 h5 h6, bits_xor_comm IntKind.u32.max s4, show IntKind.u32.max = 4294967295 from rfl]
  unfold xN
  omega
theorem upN_range (s4 s5 s6 s7 n : Int) : 0 ≤ upN s4 s5 s6 s7 n ∧ upN s4 s5 s6 s7 n ≤ 4294967295 := by unfold upN; rw [IntKind.wrap_u32]; omega
theorem onN_range (s0 s1 s2 : Int) : 0 ≤ onN s0 s1 s2 ∧ onN s0 s1 s2 ≤ 4294967295 := by unfold onN; rw [IntKind.wrap_u32]; omega
theorem sumK_take (s bs : List Int) (hs : s.length = 8) : sumK s (takeK s (wideK bs 64) 64) 8 = takeL s bs := by
  unfold sumK takeL
  rw [hs]
  apply List.map_congr_left
  intro i hi
  rw [if_pos (List.mem_range.1 hi), Int.add_comm]
end Go.Proofs.YtblddkjdglliaaaGreatDoor
