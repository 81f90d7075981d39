/- Plain lemmas on numbers and bytes: numbers put as bytes and read back; the sum's number; no program. No condition. -/
import Derived.Test.YtblddkjdglliaaaGreatDoorBase
import Derived.Laws.BitsAllLaws
namespace Go.Proofs.YtblddkjdglliaaaGreatDoor
open Go.RowKit

/-- The number of bytes, the highest first. -/
def getN (bs : List Int) : Int := bs.foldl (fun v c => v * 256 + c) 0
theorem getN_snoc (bs : List Int) (c : Int) : getN (bs ++ [c]) = getN bs * 256 + c := by simp [getN, List.foldl_append]
theorem take_snoc {α : Type} [Inhabited α] (bs : List α) (k : Nat) (h : k < bs.length) (d : α) : bs.take (k + 1) = bs.take k ++ [bs[k]?.getD d] := by
  rw [List.take_add_one]; simp [List.getElem?_eq_getElem h]
theorem snoc_ind {α : Type} {P : List α → Prop} (h0 : P []) (hs : ∀ l x, P l → P (l ++ [x])) (l : List α) : P l := by
  have H : ∀ n (l : List α), l.length = n → P l := by
    intro n
    induction n with
    | zero => intro l hl; rw [List.eq_nil_of_length_eq_zero hl]; exact h0
    | succ n ih =>
      intro l hl
      rcases List.eq_nil_or_concat l with rfl | ⟨l', b, rfl⟩
      · simp at hl
      · rw [List.concat_eq_append]; exact hs l' b (ih l' (by simpa using hl))
  exact H _ l rfl
theorem pow256_le (k m : Nat) (h : k ≤ m) : (256 : Int) ^ k ≤ 256 ^ m := by
  have := Int.ofNat_le.2 (Nat.pow_le_pow_right (n := 256) (by omega) h)
  rw [Int.natCast_pow, Int.natCast_pow] at this
  exact this
theorem getN_nonneg (bs : List Int) (h : ∀ x ∈ bs, 0 ≤ x ∧ x ≤ 255) : 0 ≤ getN bs ∧ getN bs < 256 ^ bs.length := by
  revert h
  refine snoc_ind (P := fun bs => (∀ x ∈ bs, 0 ≤ x ∧ x ≤ 255) → 0 ≤ getN bs ∧ getN bs < 256 ^ bs.length) (by simp [getN]) ?_ bs
  intro l c ih h
  have h1 := ih fun x hx => h x (by simp [hx])
  have h2 := h c (by simp)
  rw [getN_snoc, List.length_append, List.length_singleton, Int.pow_succ]
  omega
theorem or_byte (x c : Int) (h0 : 0 ≤ x) (h1 : x < 256 ^ 7) (h2 : 0 ≤ c) (h3 : c ≤ 255) : bits .or .u64 (IntKind.u64.wrap (x * 256)) c = x * 256 + c := by
  have hw : IntKind.u64.wrap (x * 256) = x * 256 := IntWalk.u64_in _ (by omega)
  obtain ⟨n, rfl⟩ := Int.eq_ofNat_of_zero_le h0
  obtain ⟨m, rfl⟩ := Int.eq_ofNat_of_zero_le h2
  rw [hw]
  have e : ((n : Int) * 256) = ((n * 256 : Nat) : Int) := by simp
  rw [e, u64_or_nat _ _ (by omega) (by omega)]
  have : n * 256 ||| m = n * 256 + m := by
    have := Nat.two_pow_add_eq_or_of_lt (i := 8) (b := m) (by omega) n
    rw [show (2 ^ 8 : Nat) = 256 from rfl, Nat.mul_comm] at this
    exact this.symm
  rw [this]; simp
theorem getN_step (bs : List Int) (k : Nat) (hk : k < bs.length) (h8 : bs.length ≤ 8) (h : ∀ x ∈ bs, 0 ≤ x ∧ x ≤ 255) :
    bits .or .u64 (IntKind.u64.wrap (getN (bs.take k) * 256)) (bs[k]?.getD 0) = getN (bs.take (k + 1)) := by
  have h1 := getN_nonneg (bs.take k) fun x hx => h x (List.mem_of_mem_take hx)
  have h2 := range_at h k
  have h3 : (256 : Int) ^ (bs.take k).length ≤ 256 ^ 7 := by
    rw [List.length_take, Nat.min_eq_left (by omega)]
    exact pow256_le k 7 (by omega)
  rw [or_byte _ _ h1.1 (by omega) h2.1 h2.2, take_snoc bs k hk 0, getN_snoc]

theorem putL_succ (x : Int) (size : Nat) : putL x (size + 1) = putL (x / 256) size ++ [x % 256] := by
  unfold putL
  rw [List.range_succ, List.map_append]
  congr 1
  · apply List.map_congr_left
    intro k hk
    have hk := List.mem_range.1 hk
    have e : 8 * (size + 1 - 1 - k) = 8 + 8 * (size - 1 - k) := by omega
    rw [e, Int.pow_add, ← Int.ediv_ediv_of_nonneg (by decide)]
    rfl
  · simp
theorem getN_putL (x : Int) (size : Nat) (h0 : 0 ≤ x) : getN (putL x size) = x % 256 ^ size := by
  induction size generalizing x with
  | zero => simp [putL, getN]
  | succ n ih =>
    rw [putL_succ, getN_snoc, ih _ (Int.ediv_nonneg h0 (by decide)), Int.pow_succ]
    obtain ⟨m, rfl⟩ := Int.eq_ofNat_of_zero_le h0
    have e := Nat.mod_mul (x := m) (a := 256) (b := 256 ^ n)
    rw [Int.mul_comm (256 ^ n) 256]
    have e2 : ((m % (256 * 256 ^ n) : Nat) : Int) = ((m % 256 + 256 * (m / 256 % 256 ^ n) : Nat) : Int) := by rw [e]
    simp only [Int.natCast_emod, Int.natCast_mul, Int.natCast_pow, Int.natCast_add, Int.natCast_ediv] at e2
    have e3 : ((256 : Nat) : Int) = 256 := rfl
    rw [e3] at e2
    rw [e2]; omega
theorem getN_putL_lt (x : Int) (size : Nat) (h0 : 0 ≤ x) (h1 : x < 256 ^ size) : getN (putL x size) = x := by
  rw [getN_putL x size h0, Int.emod_eq_of_lt h0 h1]
theorem putL_at (x : Int) (size k : Nat) (h : k < size) : putL x (k + 1 + (size - 1 - k)) = putL x size := by congr 1; omega

/-- One bit of the sum. -/
def crcBit (y : Int) : Int := bits BinOp.xor IntKind.u32 (y / 2) (2197175160 * bits BinOp.and IntKind.u32 y 1 % 4294967296)
def crcBits : Nat → Int → Int
  | 0, y => y
  | n + 1, y => crcBit (crcBits n y)
def crcByte (x c : Int) : Int := crcBits 8 (bits BinOp.xor IntKind.u32 x c)
def crcFold (bs : List Int) : Int := bs.foldl crcByte 4294967295
theorem crcFold_snoc (bs : List Int) (c : Int) : crcFold (bs ++ [c]) = crcByte (crcFold bs) c := by simp [crcFold, List.foldl_append]
end Go.Proofs.YtblddkjdglliaaaGreatDoor
