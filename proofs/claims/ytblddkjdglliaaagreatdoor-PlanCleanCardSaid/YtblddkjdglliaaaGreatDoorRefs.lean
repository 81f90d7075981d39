/- Contracts: the reference's Ints, Same, Stripes (where both are the same). -/
import Derived.Test.YtblddkjdglliaaaGreatDoorStripe
import Derived.Test.YtblddkjdglliaaaGreatDoorSha
import Derived.Deep.QuietTactic
namespace Go.Proofs.YtblddkjdglliaaaGreatDoor
open Go.RowKit

/-- The value v is a slice whose cells are the bytes bs. -/
def HBc (w : World) (v : Value) (bs : List Int) : Prop :=
  ∃ A c, v = .slice A bs.length c ∧ bs.length ≤ c ∧ c ≤ 9223372036854775807 ∧ (0 < bs.length → ∃ b o, A = some ⟨b, o, none⟩ ∧ ∀ i, i < bs.length → w.cell? ⟨b, o + i, none⟩ = some (.int .u8 (bs[i]?.getD 0)))
theorem HB.toC {w : World} {v : Value} {bs : List Int} (h : HB w v bs) : HBc w v bs := by
  obtain ⟨A, c, h1, h2, h3, _, _, h4⟩ := h
  refine ⟨A, c, h1, h2, h3, fun hp => ?_⟩
  obtain ⟨b, o, cur, fr, e, hb, hc⟩ := h4 hp
  exact ⟨b, o, e, fun i hi => by rw [cell_of_blk hb, hc i hi]⟩

set_option maxRecDepth 100000 in
set_option maxHeartbeats 1000000 in
theorem ints_same (v1 v2 : Value) (xs : List Int) (w : World) (h1 : HC w v1 xs) (h2 : HC w v2 xs) :
    Calls Tryz.prog 32 #[v1, v2] w fun e w' => e = .returned (.bool true) ∧ ∃ m, w' = w.drewN m := by
  obtain ⟨A, n, c, rfl⟩ := h1.shape
  obtain ⟨B, n', d, rfl⟩ := h2.shape
  obtain ⟨e1, hnc, hc1⟩ := h1.cell
  obtain ⟨e2, hnd, hc2⟩ := h2.cell
  obtain rfl : n' = n := by omega
  have HC1 := Lib.hid hc1
  have HC2 := Lib.hid hc2
  have hcm : c ≤ 9223372036854775807 := by obtain ⟨_, _, e, _, h, _⟩ := h1; cases e; exact h
  clear h1 h2 e1 e2 hc1 hc2
  go_enter Tryz.func32, Tryz.ntmps32
  go_wp2
  go_loopw [5] (fun i wr => ∃ k : Nat, k ≤ n' ∧ i = .int .i64 k ∧ ∃ q, wr = w.drewN q) (fun i _ => n' - (intOf i).toNat)
  case atStart => exact ⟨0, by omega, rfl, 0, rfl⟩
  case round =>
    obtain ⟨k, hk, rfl, q, rfl⟩ := hrel
    by_cases hlt : k < n'
    · obtain ⟨b1, o1, rfl, m1⟩ := HC1.out k hlt
      obtain ⟨b2, o2, rfl, m2⟩ := HC2.out k hlt
      have hI : (k : Int) < n' := by omega
      generalize xs[k]?.getD 0 = x at *
      go_wp2_with fail
      go_quiet (fail)
      go_wp2
      exact ⟨⟨k + 1, by omega, by go_num, _, rfl⟩, by simp [intOf]; omega⟩
    · obtain rfl : k = n' := by omega
      go_wp2
      go_ret
      exact ⟨rfl, q, rfl⟩

set_option maxRecDepth 100000 in
set_option maxHeartbeats 1000000 in
theorem bytes_same (v1 v2 : Value) (xs : List Int) (w : World) (h1 : HBc w v1 xs) (h2 : HBc w v2 xs) :
    Calls Tryz.prog 31 #[v1, v2] w fun e w' => e = .returned (.bool true) ∧ ∃ m, w' = w.drewN m := by
  obtain ⟨A, c, rfl, hnc, hcm, hc1⟩ := h1
  obtain ⟨B, d, rfl, hnd, _, hc2⟩ := h2
  obtain ⟨n, hn⟩ : ∃ n, xs.length = n := ⟨_, rfl⟩
  rw [hn] at hnc hnd hc1 hc2 ⊢
  have HC1 := Lib.hid hc1
  have HC2 := Lib.hid hc2
  clear hn hc1 hc2
  go_enter Tryz.func31, Tryz.ntmps31
  go_wp2
  go_loopw [5] (fun i wr => ∃ k : Nat, k ≤ n ∧ i = .int .i64 k ∧ ∃ q, wr = w.drewN q) (fun i _ => n - (intOf i).toNat)
  case atStart => exact ⟨0, by omega, rfl, 0, rfl⟩
  case round =>
    obtain ⟨k, hk, rfl, q, rfl⟩ := hrel
    by_cases hlt : k < n
    · obtain ⟨b1, o1, rfl, m1⟩ := HC1.out (by omega)
      obtain ⟨b2, o2, rfl, m2⟩ := HC2.out (by omega)
      replace m1 := m1 k hlt
      replace m2 := m2 k hlt
      have hI : (k : Int) < n := by omega
      generalize xs[k]?.getD 0 = x at *
      go_wp2_with fail
      go_quiet (fail)
      go_wp2
      exact ⟨⟨k + 1, by omega, by go_num, _, rfl⟩, by simp [intOf]; omega⟩
    · obtain rfl : k = n := by omega
      go_wp2
      go_ret
      exact ⟨rfl, q, rfl⟩

set_option maxRecDepth 100000 in
set_option maxHeartbeats 2000000 in
theorem stripes_same (v1 v2 : Value) (B1 B2 : Nat) (l : List StripeM) (w : World) (h1 : HS w B1 v1 l) (h2 : HS w B2 v2 l) :
    Calls Tryz.prog 50 #[v1, v2] w fun e w' => e = .returned (.bool true) ∧ ∃ m, w' = w.drewN m := by
  obtain ⟨A, n, c, rfl⟩ := h1.shape
  obtain ⟨B, n', d, rfl⟩ := h2.shape
  obtain ⟨e1, hnc, hcm, hc1⟩ := h1.cell
  obtain ⟨e2, hnd, hdm, hc2⟩ := h2.cell
  obtain rfl : n' = n := by omega
  have HC1 := Lib.hid hc1
  have HC2 := Lib.hid hc2
  clear h1 h2 e1 e2 hc1 hc2
  go_enter Tryz.func50, Tryz.ntmps50
  go_wp2
  go_loopw [5] (fun i wr => ∃ k : Nat, k ≤ n' ∧ i = .int .i64 k ∧ ∃ q, wr = w.drewN q) (fun i _ => n' - (intOf i).toNat)
  case atStart => exact ⟨0, by omega, rfl, 0, rfl⟩
  case round =>
    obtain ⟨k, hk, rfl, q, rfl⟩ := hrel
    by_cases hlt : k < n'
    · obtain ⟨b1, u1, rfl, m10, m11, m12, hu1⟩ := HC1.out k hlt
      obtain ⟨b2, u2, rfl, m20, m21, m22, hu2⟩ := HC2.out k hlt
      have hI : (k : Int) < n' := by omega
      generalize l[k]?.getD .zero = s at *
      obtain ⟨sid, sep, sl⟩ := s
      obtain ⟨X, xn, xc, rfl⟩ := hu1.shape
      obtain ⟨Y, yn, yc, rfl⟩ := hu2.shape
      have IN : Hid (∀ N, Calls Tryz.prog 32 #[.slice X xn xc, .slice Y yn yc] (w.drewN N) fun e w' => e = .returned (.bool true) ∧ ∃ m, w' = (w.drewN N).drewN m) :=
        Lib.hid fun N => ints_same _ _ sl (w.drewN N) hu1.toC hu2.toC
      clear hu1 hu2
      go_wp2_with fail
      go_quiet ((go_at_call 32; exact quiet_add (IN.out _)))
      go_wp2
      exact ⟨⟨k + 1, by omega, by go_num, _, rfl⟩, by simp [intOf]; omega⟩
    · obtain rfl : k = n' := by omega
      go_wp2
      go_ret
      exact ⟨rfl, q, rfl⟩

set_option maxRecDepth 100000 in
set_option maxHeartbeats 2000000 in
theorem objects_same (b1 b2 c1 c2 : Nat) (fr1 fr2 : Nat × Nat) (key : ByteArray) (id sz : Int) (v1 v2 : Value) (B1 B2 : Nat) (l : List StripeM) (w : World)
    (h1 : w.heap[b1]? = some (.cells #[.string key, .int .i64 id, .int .i64 sz, v1] 32 fr1)) (h2 : w.heap[b2]? = some (.cells #[.string key, .int .i64 id, .int .i64 sz, v2] 32 fr2)) (hv1 : HS w B1 v1 l) (hv2 : HS w B2 v2 l) :
    Calls Tryz.prog 16 #[.slice (some ⟨b1, 0, none⟩) 1 c1, .slice (some ⟨b2, 0, none⟩) 1 c2] w fun e w' => e = .returned (.bool true) ∧ ∃ m, w' = w.drewN m := by
  obtain ⟨X, xn, xc, rfl⟩ := hv1.shape
  obtain ⟨Y, yn, yc, rfl⟩ := hv2.shape
  have m10 : w.cell? ⟨b1, 0, none⟩ = some (.string key) := by rw [cell_of_blk h1]; rfl
  have m11 : w.cell? ⟨b1, 1, none⟩ = some (.int .i64 id) := by rw [cell_of_blk h1]; rfl
  have m12 : w.cell? ⟨b1, 2, none⟩ = some (.int .i64 sz) := by rw [cell_of_blk h1]; rfl
  have m13 : w.cell? ⟨b1, 3, none⟩ = some (.slice X xn xc) := by rw [cell_of_blk h1]; rfl
  have m20 : w.cell? ⟨b2, 0, none⟩ = some (.string key) := by rw [cell_of_blk h2]; rfl
  have m21 : w.cell? ⟨b2, 1, none⟩ = some (.int .i64 id) := by rw [cell_of_blk h2]; rfl
  have m22 : w.cell? ⟨b2, 2, none⟩ = some (.int .i64 sz) := by rw [cell_of_blk h2]; rfl
  have m23 : w.cell? ⟨b2, 3, none⟩ = some (.slice Y yn yc) := by rw [cell_of_blk h2]; rfl
  have ST : Hid (∀ N, Calls Tryz.prog 50 #[.slice X xn xc, .slice Y yn yc] (w.drewN N) fun e w' => e = .returned (.bool true) ∧ ∃ m, w' = (w.drewN N).drewN m) :=
    Lib.hid fun N => stripes_same _ _ B1 B2 l (w.drewN N) (hv1.below (below_drewN' (Below.refl _ _) N)) (hv2.below (below_drewN' (Below.refl _ _) N))
  clear h1 h2 hv1 hv2
  go_enter Tryz.func16, Tryz.ntmps16
  go_wp2
  go_loopw [5] (fun i wr => ∃ k : Nat, k ≤ 1 ∧ i = .int .i64 k ∧ ∃ q, wr = w.drewN q) (fun i _ => 1 - (intOf i).toNat)
  case atStart => exact ⟨0, by omega, rfl, 0, rfl⟩
  case round =>
    obtain ⟨k, hk, rfl, q, rfl⟩ := hrel
    by_cases hlt : k < 1
    · obtain rfl : k = 0 := by omega
      go_wp2_with fail
      go_quiet ((go_at_call 50; exact quiet_add (ST.out _)))
      go_wp2
      exact ⟨⟨0 + 1, by omega, by go_num, _, rfl⟩, by simp [intOf]⟩
    · obtain rfl : k = 1 := by omega
      go_wp2
      go_ret
      exact ⟨rfl, q, rfl⟩
end Go.Proofs.YtblddkjdglliaaaGreatDoor
