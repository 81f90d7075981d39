/- Contracts: bytes.Clone, bytes.Equal, hash.Put, hash.Get, sum.Of. Conditions: the slices read as bytes (HB), rows are the call's own. -/
import Derived.Test.YtblddkjdglliaaaGreatDoorNum
import Derived.Test.YtblddkjdglliaaaGreatDoorShelf
namespace Go.Proofs.YtblddkjdglliaaaGreatDoor
open Go.RowKit

theorem Tryz.info5 : (Tryz.prog.info? 5).map (fun i => (i.zero, i.size, i.bytes)) = some (some (.int .u8 0), 1, 1) := by kernel_rfl

theorem clone_any (v : Value) (bs : List Int) (w : World) (h : HB w v bs) :
    Calls Tryz.prog 46 #[v] w fun e w' => ∃ v', e = .returned v' ∧ w'.ownsRow w.heap.size 5 1 v' bs.length (ints .u8 bs) ∧ HB w' v' bs ∧ Below w.heap.size w w' := by
  obtain ⟨A, c, rfl, h2, h3, h4, h5, h6⟩ := h
  cases A with
  | none =>
    have hl : bs.length = 0 := by
      rcases Nat.eq_zero_or_pos bs.length with h | h
      · exact h
      · obtain ⟨_, _, _, _, e, _⟩ := h6 h; cases e
    have hb : bs = [] := List.eq_nil_of_length_eq_zero hl
    subst hb
    refine (Tryz.bytes_Clone_nil _ _ _).mono ?_
    rintro e w' ⟨rfl, rfl⟩
    exact ⟨_, rfl, World.ownsRow_nil _ _ _ _, HB.nil _, Below.refl _ _⟩
  | some a =>
    refine (Tryz.bytes_Clone_at a bs.length c bs w rfl (by omega) ?_).mono ?_
    · intro i hi
      obtain ⟨b, o, cur, fr, e, hb, hc⟩ := h6 (by omega)
      cases e
      rw [show (⟨b, o, none⟩ : Addr).add i = ⟨b, o + i, none⟩ from by unfold Addr.add; split <;> simp_all, cell_of_blk hb, hc i hi]
      simp
    · rintro e w' ⟨v', rfl, ho, _, hb⟩
      exact ⟨v', rfl, ho, HB.of_own ho h5 h4, hb⟩

theorem bytesOf_eq {xs ys : List Int} (hx : ∀ x ∈ xs, 0 ≤ x ∧ x ≤ 255) (hy : ∀ x ∈ ys, 0 ≤ x ∧ x ≤ 255) : (Lib.bytesOf xs == Lib.bytesOf ys) = decide (xs = ys) := by
  have key : ∀ x y : Int, 0 ≤ x ∧ x ≤ 255 → 0 ≤ y ∧ y ≤ 255 → UInt8.ofNat x.toNat = UInt8.ofNat y.toNat → x = y := by
    intro x y hx hy h
    have := congrArg UInt8.toNat h
    have e1 : (UInt8.ofNat x.toNat).toNat = x.toNat := by simp [UInt8.toNat_ofNat']; omega
    have e2 : (UInt8.ofNat y.toNat).toNat = y.toNat := by simp [UInt8.toNat_ofNat']; omega
    rw [e1, e2] at this; omega
  rw [Bool.eq_iff_iff]
  simp only [beq_iff_eq, decide_eq_true_eq, Lib.bytesOf]
  constructor
  · intro h
    have hl : xs.length = ys.length := by have := congrArg List.length h; simpa using this
    refine List.ext_getElem hl fun i h1 h2 => ?_
    have := congrArg (fun l => l[i]?) h
    simp only [List.getElem?_map, List.getElem?_eq_getElem h1, List.getElem?_eq_getElem h2, Option.map_some, Option.some.injEq] at this
    exact key _ _ (hx _ (List.getElem_mem h1)) (hy _ (List.getElem_mem h2)) this
  · rintro rfl; rfl

theorem equal_any (v1 v2 : Value) (xs ys : List Int) (w : World) (h1 : HB w v1 xs) (h2 : HB w v2 ys) :
    Calls Tryz.prog 104 #[v1, v2] w fun e w' => e = .returned (.bool (decide (xs = ys))) ∧ w = w' := by
  obtain ⟨A1, c1, rfl, _⟩ := id h1
  obtain ⟨A2, c2, rfl, _⟩ := id h2
  refine (Tryz.bytes_Equal_all A1 A2 xs.length c1 ys.length c2 xs ys w rfl rfl (fun hn => h1.bytesIn hn) (fun hn => h2.bytesIn hn)).mono ?_
  rintro e w' ⟨rfl, rfl⟩
  exact ⟨by rw [bytesOf_eq h1.range h2.range], rfl⟩

set_option maxRecDepth 100000 in
set_option maxHeartbeats 400000 in
/-- Put: the number in so many bytes behind what is there. -/
theorem put_any (v : Value) (n : Nat) (xs : List Int) (x : Int) (size : Nat) (w : World) (_hx : 0 ≤ x) (hs : size ≤ 8) (hn : n ≤ 60000) (hown : w.ownsRow 0 5 1 v n (ints .u8 xs)) :
    Calls Tryz.prog 101 #[v, .int .u64 x, .int .i64 size] w fun e w' => ∃ v', e = .returned v' ∧ w'.ownsRow 0 5 1 v' (n + size) (ints .u8 (xs ++ putL x size)) ∧ Grow w w' v v' := by
  obtain ⟨i0, hi, hz0, hz1, hz2⟩ := info_parts Tryz.info5
  go_enter Tryz.func101, Tryz.ntmps101
  go_wp2
  go_loopw [0, 7] (fun u i wr => ∃ k : Nat, k ≤ size ∧ i = .int .i64 (size - 1 - k) ∧ wr.ownsRow 0 5 1 u (n + k) (ints .u8 (xs ++ (putL x size).take k)) ∧ Grow w wr v u)
    (fun _ i _ => (intOf i + 1).toNat)
  case atStart => exact ⟨0, by omega, by simp, by simpa using hown, Grow.refl _ _⟩
  case round =>
    obtain ⟨k, hk, rfl, ho, hg⟩ := hrel
    by_cases hlt : k < size
    · go_wp2_with (at_builtin; refine wpList_append_own_at _ rfl (.tmp 14) (.tmp 20) 22 rfl 0 5 i0 (.int .u8 0) 1 1 Tryz.underlying22 hi hz0 hz1 hz2 rfl (by decide) _ _ _ rfl (ho.alloc _) ⟨wr.heap.size, 0, none⟩ 1 1 [_] rfl rfl (cell_one_new _ _ _) (by simp [Value.oneCell']) (by unfold maxLen; omega) (by omega) (by omega) ?_; intro v' w1 hown' hgrow _ hat)
      have hpl : (putL x size)[k]?.getD 0 = x / 2 ^ (8 * (size - 1 - k)) % 256 := by simp [putL, hlt]
      have hts := take_snoc (putL x size) k (by rw [putL_length]; exact hlt) 0
      have hno : ints .u8 (xs ++ (putL x size).take (k + 1)) = ints .u8 (xs ++ (putL x size).take k) ++ [.int .u8 (x / 2 ^ (8 * (size - 1 - k)) % 256)] := by
        rw [hts, hpl, ← List.append_assoc, ints_append]; rfl
      refine ⟨⟨k + 1, by omega, by go_num, by rw [hno]; exact hown', hg.trans ((Grow.of_at hgrow hat).from_alloc)⟩, by simp [intOf]; omega⟩
    · go_wp2
      go_ret
      have hk' : k = size := by omega
      subst hk'
      refine ⟨_, rfl, ?_, hg⟩
      have : (putL x k).take k = putL x k := List.take_of_length_le (by rw [putL_length]; omega)
      rw [this] at ho; exact ho

set_option maxRecDepth 100000 in
set_option maxHeartbeats 400000 in
theorem get_any (v : Value) (bs : List Int) (w : World) (h : HB w v bs) (h8 : bs.length ≤ 8) :
    Calls Tryz.prog 103 #[v] w fun e w' => e = .returned (.int .u64 (getN bs)) ∧ w = w' := by
  obtain ⟨A, c, rfl, _⟩ := id h
  obtain ⟨n, hn⟩ : ∃ n, bs.length = n := ⟨_, rfl⟩
  have hstep := getN_step bs
  rw [hn] at h h8 ⊢
  obtain ⟨hq, hnc, hc⟩ := h.cell
  have H := Lib.hid hn; clear hn hq
  have HS := Lib.hid hstep; clear hstep
  go_enter Tryz.func103, Tryz.ntmps103
  go_wp2
  go_loop [3, 8] (fun u i => ∃ k : Nat, k ≤ n ∧ i = .int .i64 k ∧ u = .int .u64 (getN (bs.take k))) (fun _ i => n - (intOf i).toNat)
  case atStart => exact ⟨0, by omega, rfl, by simp [getN]⟩
  case round =>
    obtain ⟨k, hk, rfl, rfl⟩ := hrel
    by_cases hlt : k < n
    · obtain ⟨b, o, rfl, hcell⟩ := hc k hlt
      have h1 := h.at_ k
      have h2 := HS.out k (by rw [H.out]; exact hlt) (by rw [H.out]; exact h8) h.range
      have H2 := Lib.hid h2
      clear hc h2
      go_wp2
      exact ⟨⟨k + 1, by omega, by go_num, by rw [H2.out]⟩, by simp [intOf]; omega⟩
    · go_wp2
      go_ret
      have hk' : k = n := by omega
      subst hk'
      rw [List.take_of_length_le (by rw [H.out]; omega)]
      exact ⟨rfl, rfl⟩

def crcOf (bs : List Int) : Int := bits BinOp.xor IntKind.u32 IntKind.u32.max (crcFold bs)
theorem crcOf_range (bs : List Int) : 0 ≤ crcOf bs ∧ crcOf bs ≤ 4294967295 := by
  unfold crcOf bits
  generalize BitVec.toNat _ = n
  rw [IntKind.wrap_u32]; omega
set_option maxRecDepth 100000 in
set_option maxHeartbeats 400000 in
theorem sum_any (v : Value) (bs : List Int) (w : World) (h : HB w v bs) :
    Calls Tryz.prog 102 #[v] w fun e w' => e = .returned (.int .u32 (crcOf bs)) ∧ w = w' := by
  obtain ⟨A, c, rfl, _⟩ := id h
  obtain ⟨n, hn⟩ : ∃ n, bs.length = n := ⟨_, rfl⟩
  have hlen := h.len
  rw [hn] at h hlen ⊢
  obtain ⟨hq, hnc, hc⟩ := h.cell
  have H := Lib.hid hn; clear hn hq
  have hsg : IntKind.u32.signed = false := rfl
  go_enter Tryz.func102, Tryz.ntmps102
  go_wp2
  go_loop [3, 8] (fun u i => ∃ k : Nat, k ≤ n ∧ i = .int .i64 k ∧ u = .int .u32 (crcFold (bs.take k))) (fun _ i => n - (intOf i).toNat)
  case atStart => exact ⟨0, by omega, rfl, by simp [crcFold]⟩
  case round =>
    obtain ⟨k, hk, rfl, rfl⟩ := hrel
    by_cases hlt : k < n
    · obtain ⟨b, o, rfl, hcell⟩ := hc k hlt
      have h1 := h.at_ k
      clear hc
      have h2 : crcFold (bs.take (k + 1)) = crcByte (crcFold (bs.take k)) (bs[k]?.getD 0) := by rw [take_snoc bs k (by rw [H.out]; exact hlt) 0, crcFold_snoc]
      have H2 := Lib.hid h2; clear h2
      generalize crcFold (bs.take k) = x0 at *
      go_wp2
      go_loop [3, 16] (fun u i => ∃ j : Nat, j ≤ 8 ∧ i = .int .i64 j ∧ u = .int .u32 (crcBits j (bits BinOp.xor IntKind.u32 x0 (bs[k]?.getD 0)))) (fun _ i => 8 - (intOf i).toNat)
      case atStart => exact ⟨0, by omega, rfl, rfl⟩
      case round =>
        obtain ⟨j, hj, rfl, rfl⟩ := hrel
        by_cases hj8 : j < 8
        · generalize hy : crcBits j (bits BinOp.xor IntKind.u32 x0 (bs[k]?.getD 0)) = y
          have HY := Lib.hid hy; clear hy
          go_wp2
          exact ⟨⟨j + 1, by omega, by go_num, by rw [← HY.out]; rfl⟩, by simp [intOf]; omega⟩
        · have hk2 : (k : Int) ≤ 60000 := by omega
          go_wp2
          have : j = 8 := by omega
          subst this
          exact ⟨⟨k + 1, by omega, by go_num, by rw [H2.out]; rfl⟩, by simp [intOf]; omega⟩
    · go_wp2
      go_ret
      have hk' : k = n := by omega
      subst hk'
      rw [List.take_of_length_le (by rw [H.out]; omega)]
      exact ⟨rfl, rfl⟩
end Go.Proofs.YtblddkjdglliaaaGreatDoor
