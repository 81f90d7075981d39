/- Plain laws on 32-bit words: the choice and the majority, two ways of writing each. No condition. -/
import Derived.Test.YtblddkjdglliaaaGreatDoorWide
import Derived.Laws.BitsAllLaws
namespace Go.Proofs.YtblddkjdglliaaaGreatDoor
open Go.RowKit
theorem nat_ch (e f g : Nat) (he : e < 4294967296) (hf : f < 4294967296) (hg : g < 4294967296) : (e &&& (f ^^^ g)) ^^^ g = (e &&& f) ^^^ ((e ^^^ 4294967295) &&& g) := by
  apply Nat.eq_of_testBit_eq
  intro i
  by_cases hi : i < 32
  · have h1 : Nat.testBit 4294967295 i = true := by rw [show 4294967295 = 2 ^ 32 - 1 from rfl, Nat.testBit_two_pow_sub_one]; simpa using hi
    simp only [Nat.testBit_xor, Nat.testBit_and, h1]
    cases e.testBit i <;> cases f.testBit i <;> cases g.testBit i <;> rfl
  · have h (x : Nat) (hx : x < 4294967296) : x.testBit i = false := Nat.testBit_lt_two_pow (Nat.lt_of_lt_of_le hx (by rw [show 4294967296 = 2 ^ 32 from rfl]; exact Nat.pow_le_pow_right (by omega) (by omega)))
    simp only [Nat.testBit_xor, Nat.testBit_and, h e he, h f hf, h g hg, h 4294967295 (by omega)]
    rfl
theorem nat_maj (a b c : Nat) : (a &&& b) ||| (c &&& (a ||| b)) = ((a &&& b) ^^^ (a &&& c)) ^^^ (b &&& c) := by
  apply Nat.eq_of_testBit_eq
  intro i
  simp only [Nat.testBit_xor, Nat.testBit_and, Nat.testBit_or]
  cases a.testBit i <;> cases b.testBit i <;> cases c.testBit i <;> rfl
theorem bits_ch (e f g : Int) (he : 0 ≤ e ∧ e ≤ 4294967295) (hf : 0 ≤ f ∧ f ≤ 4294967295) (hg : 0 ≤ g ∧ g ≤ 4294967295) :
    bits .xor .u32 (bits .and .u32 e (bits .xor .u32 f g)) g = bits .xor .u32 (bits .and .u32 e f) (bits .and .u32 (bits .xor .u32 e 4294967295) g) := by
  obtain ⟨e, rfl⟩ := Int.eq_ofNat_of_zero_le he.1
  obtain ⟨f, rfl⟩ := Int.eq_ofNat_of_zero_le hf.1
  obtain ⟨g, rfl⟩ := Int.eq_ofNat_of_zero_le hg.1
  have b1 : e < 2 ^ 32 := by omega
  have b2 : f < 2 ^ 32 := by omega
  have b3 : g < 2 ^ 32 := by omega
  rw [show (4294967295 : Int) = ((4294967295 : Nat) : Int) from rfl]
  rw [u32_xor_nat f g b2 b3, u32_and_nat _ _ b1 (Nat.xor_lt_two_pow b2 b3), u32_xor_nat _ _ (Nat.and_lt_two_pow _ (Nat.xor_lt_two_pow b2 b3)) b3,
    u32_and_nat e f b1 b2, u32_xor_nat e _ b1 (by omega), u32_and_nat _ g (Nat.xor_lt_two_pow (n := 32) b1 (by omega)) b3, u32_xor_nat _ _ (Nat.and_lt_two_pow _ b2) (Nat.and_lt_two_pow _ b3), nat_ch e f g b1 b2 b3]
theorem bits_maj (a b c : Int) (he : 0 ≤ a ∧ a ≤ 4294967295) (hf : 0 ≤ b ∧ b ≤ 4294967295) (hg : 0 ≤ c ∧ c ≤ 4294967295) :
    bits .or .u32 (bits .and .u32 a b) (bits .and .u32 c (bits .or .u32 a b)) = bits .xor .u32 (bits .xor .u32 (bits .and .u32 a b) (bits .and .u32 a c)) (bits .and .u32 b c) := by
  obtain ⟨e, rfl⟩ := Int.eq_ofNat_of_zero_le he.1
  obtain ⟨f, rfl⟩ := Int.eq_ofNat_of_zero_le hf.1
  obtain ⟨g, rfl⟩ := Int.eq_ofNat_of_zero_le hg.1
  have b1 : e < 2 ^ 32 := by omega
  have b2 : f < 2 ^ 32 := by omega
  have b3 : g < 2 ^ 32 := by omega
  rw [u32_and_nat e f b1 b2, u32_or_nat e f b1 b2, u32_and_nat g _ b3 (Nat.or_lt_two_pow b1 b2), u32_or_nat _ _ (Nat.and_lt_two_pow _ b2) (Nat.and_lt_two_pow _ (Nat.or_lt_two_pow b1 b2)),
    u32_and_nat e g b1 b3, u32_and_nat f g b2 b3, u32_xor_nat _ _ (Nat.and_lt_two_pow _ b2) (Nat.and_lt_two_pow _ b3), u32_xor_nat _ _ (Nat.xor_lt_two_pow (Nat.and_lt_two_pow _ b2) (Nat.and_lt_two_pow _ b3)) (Nat.and_lt_two_pow _ b3), nat_maj]
end Go.Proofs.YtblddkjdglliaaaGreatDoor
