/- The walk of TaskOthers. Conditions: hash.turns holds its numbers; the data's cells are had. -/
import Derived.Test.YtblddkjdglliaaaGreatDoorAns
import Derived.Test.YtblddkjdglliaaaGreatDoorRefs
namespace Go.Proofs.YtblddkjdglliaaaGreatDoor
open Go.RowKit

/-- A slice of bytes that was handed in reads as xs. -/
def Handed (W : World) (A : Option Addr) (len : Nat) (xs : List Int) : Prop :=
  xs.length = len ∧ (∀ x ∈ xs, 0 ≤ x ∧ x ≤ 255) ∧ (A = none ∧ len = 0 ∨ ∃ a, A = some a ∧ ∀ i, i < len → W.cell? (a.add i) = some (.int .u8 (xs[i]?.getD 0)))
theorem Handed.below {W W' : World} {A : Option Addr} {len : Nat} {xs : List Int} (h : Handed W A len xs) (hb : Below W.heap.size W W') : Handed W' A len xs := by
  obtain ⟨h1, h2, h3⟩ := h
  refine ⟨h1, h2, h3.imp id ?_⟩
  rintro ⟨a, rfl, hc⟩
  exact ⟨a, rfl, fun i hi => by rw [hb.cell (cell_lt (hc i hi)), hc i hi]⟩
theorem clone_of_handed (A : Option Addr) (len cap : Nat) (xs : List Int) (W : World) (h : Handed W A len xs) (hl : len ≤ 60000) :
    Calls Tryz.prog 46 #[.slice A len cap] W fun e w' => ∃ A' n' c', e = .returned (.slice A' n' c') ∧ HB w' (.slice A' n' c') xs ∧ Below W.heap.size W w' := by
  obtain ⟨h1, h2, ⟨rfl, rfl⟩ | ⟨a, rfl, hc⟩⟩ := h
  · refine (Tryz.bytes_Clone_nil _ _ W).mono ?_
    rintro e w' ⟨rfl, rfl⟩
    obtain rfl := List.eq_nil_of_length_eq_zero h1
    exact ⟨_, _, _, rfl, HB.nil _, Below.refl _ _⟩
  · refine (Tryz.bytes_Clone_at a len cap xs W h1 (by omega) fun i hi => ?_).mono ?_
    · rw [hc i hi]; simp [List.getD]
    · rintro e w' ⟨v', rfl, ho, _, hB⟩
      have hh := HB.of_own ho h2 (by omega)
      obtain ⟨A', n', c', rfl⟩ := hh.shape
      exact ⟨_, _, _, rfl, hh, hB⟩
theorem new_handed (id op : Int) (key : ByteArray) (A : Option Addr) (len cap : Nat) (xs : List Int) (W : World) (h : Handed W A len xs) (hl : len ≤ 60000) (hck : checkN op key.size len = 0) :
    Calls Tryz.prog 13 #[.int .i64 id, .int .i64 op, .string key, .slice A len cap] W fun e w' => ∃ b, e = .returned (tptr b) ∧ IsTask w' b (newT id op key xs) ∧ W.heap.size ≤ b ∧ Below W.heap.size W w' := by
  refine (new_ok id op key A len cap W (fun v w' => HB w' v xs) hck (clone_of_handed A len cap xs W h hl)).mono ?_
  rintro e w' ⟨w2, v', rfl, rfl, hh, hB⟩
  exact ⟨_, rfl, ⟨v', .slice none 0 0, heap_alloc_new w2 _, hh.below ((Below.refl _ w2).alloc (Nat.le_refl _) _), HS.nil _ _⟩, hB.size, hB.trans (((Below.refl _ w2).alloc (Nat.le_refl _) _).mono hB.size)⟩

def mp4 : PoolM := ⟨[newD 4], -1, false⟩
theorem free4 : mp4.freeN 0 = 4 := freeN_at (m := mp4) (n := 0) (d := newD (4 : Nat)) rfl (newD_ent 4 (by decide))

set_option maxRecDepth 100000 in
set_option maxHeartbeats 2000000 in
theorem taskOthers_walk (op : Int) (A : Option Addr) (n c : Nat) (xs : List Int) (w : World) (hT : Turns w) (hop : 0 ≤ op ∧ op ≤ 255) (hx : Handed w A n xs) :
    Calls Tryz.prog 4 #[.int .u8 op, .slice A n c] w fun e w' => e = .returned (.bool true) ∧ Below w.heap.size w w' := by
  have HT := Lib.hid hT
  have HX := Lib.hid hx
  clear hT hx
  by_cases hbig : 96 < n
  · have d0 : decide (96 < (n : Int)) = true := decide_eq_true (by omega)
    have AN := Lib.hid (answers_any w HT.out)
    go_enter Tryz.func4, Tryz.ntmps4
    go_wp2_with fail
    refine AN.out.mono ?_
    rintro e w' ⟨rfl, hB⟩
    go_wp2
    go_ret
    exact ⟨rfl, hB⟩
  have d0 : decide (96 < (n : Int)) = false := decide_eq_false (by omega)
  obtain ⟨o, ho⟩ : ∃ o : Int, op % 3 + 2 = o := ⟨_, rfl⟩
  have ho2 : o = 2 ∨ o = 3 ∨ o = 4 := by omega
  have hck : checkN o (⟨#[107]⟩ : ByteArray).size n = 0 := by
    rcases ho2 with rfl | rfl | rfl <;> rfl
  have hck1 : checkN 1 (⟨#[107]⟩ : ByteArray).size n = 0 := by
    show (if (1 : Int) < 1 ∨ 4 < 1 then (1 : Int) else if (1 : Int) ≠ 4 ∧ ((⟨#[107]⟩ : ByteArray).size < 1 ∨ 16 < (⟨#[107]⟩ : ByteArray).size) then 5 else if (1 : Int) = 1 ∧ 96 < n then 4 else 0) = 0
    rw [if_neg (by omega), if_neg (by decide), if_neg (by omega)]
  have HO2 := Lib.hid ho2
  clear ho2
  go_enter Tryz.func4, Tryz.ntmps4
  go_wp2_with fail
  refine (pnew_any w).mono ?_
  rintro e w1 ⟨rfl, hP1, hB1⟩
  obtain ⟨p, hp⟩ : ∃ p, w.heap.size = p := ⟨_, rfl⟩
  rw [hp] at hP1 ⊢
  unfold pptr
  have HP1 := Lib.hid hP1
  clear hP1
  go_wp2_with fail
  refine (padd_any p _ ⟨[], -1, false⟩ 4 w1 HP1.out).mono ?_
  rintro e w2 ⟨L2, rfl, hP2, hs2⟩
  change IsPool w2 p L2 mp4 at hP2
  have hBw2 : Below w.heap.size w w2 := hB1.trans (hs2.chg.to_below hB1.size (by
    rintro k (rfl | hk | ⟨x, hx, _⟩)
    · omega
    · simp [Value.ownBlock] at hk
    · simp at hx))
  replace hP2 := Lib.hid hP2
  have hpw := Lib.hid hp
  clear hs2 hB1 hp
  go_wp2_with fail
  refine (new_handed 1 o ⟨#[107]⟩ A n c xs w2 (HX.out.below hBw2) (by omega) hck).mono ?_
  rintro e w3 ⟨bx, rfl, hX3, hbx, hB3⟩
  have hBw3 := hBw2.trans (hB3.mono hBw2.size)
  replace hX3 := Lib.hid hX3
  unfold tptr
  go_wp2_with fail
  refine (new_handed 1 1 ⟨#[107]⟩ A n c xs w3 (HX.out.below hBw3) (by omega) hck1).mono ?_
  rintro e w4 ⟨bY, rfl, hY4, hby, hB4⟩
  have hBw4 := hBw3.trans (hB4.mono hBw3.size)
  have hX4 := hX3.out.below hB4
  have hP4 := (hP2.out.below hB3).below hB4
  unfold tptr
  have hY4' := Lib.hid hY4
  have hX4' := Lib.hid hX4
  have hP4' := Lib.hid hP4
  clear hX3 hP2 hY4 hX4 hP4
  go_wp2_with fail
  obtain ⟨W5, hW5⟩ : ∃ W, w4.alloc (.cells #[.int .i64 1] 3) = W := ⟨_, rfl⟩
  have hB5 : Below w4.heap.size w4 W5 := by rw [← hW5]; exact (Below.refl _ _).alloc (Nat.le_refl _) _
  rw [hW5]
  clear hW5
  have hBw5 := hBw4.trans (hB5.mono hBw4.size)
  have hX5 := Lib.hid (hX4'.out.below hB5)
  have hY5 := Lib.hid (hY4'.out.below hB5)
  have hP5 := Lib.hid (hP4'.out.below hB5)
  have hox : (newT 1 o ⟨#[107]⟩ xs).op ≠ 1 := by show o ≠ 1; have := HO2.out; omega
  have PN := plan_not bx _ 1 0 1 1 (.slice (some ⟨w4.heap.size, 0, none⟩) 1 1) W5 hX5.out hox
  have NX := next_not bx _ (.pointer (some ⟨p, 0, none⟩)) 1 0 W5 hX5.out (.inl hox)
  have NY := next_not bY _ (.pointer (some ⟨p, 0, none⟩)) 1 0 W5 hY5.out (.inr rfl)
  have AN := answers_any W5 (HT.out.below hBw5)
  unfold tptr at PN NX NY
  replace PN := Lib.hid PN
  replace NX := Lib.hid NX
  replace NY := Lib.hid NY
  replace AN := Lib.hid AN
  clear hX4' hY4' hP4' hox
  go_wp2_with fail
  refine PN.out.mono ?_
  rintro e w' ⟨rfl, rfl⟩
  go_wp2_with fail
  refine NX.out.mono ?_
  rintro e w' ⟨rfl, rfl⟩
  go_wp2_with fail
  refine NY.out.mono ?_
  rintro e w' ⟨rfl, rfl⟩
  go_wp2_with fail
  refine AN.out.mono ?_
  rintro e w6 ⟨rfl, hB6⟩
  have hBw6 := hBw5.trans (hB6.mono hBw5.size)
  have FR := pfree_any p L2 mp4 0 w6 (hP5.out.below hB6)
  rw [free4] at FR
  unfold pptr at FR
  replace FR := Lib.hid FR
  clear AN NX NY PN
  go_wp2_with fail
  refine FR.out.mono ?_
  rintro e w7 ⟨rfl, hB7⟩
  have hBw7 := hBw6.trans (hB7.mono hBw6.size)
  have OB := object_any bx _ w7 ((hX5.out.below hB6).below hB7) (by show ([] : List StripeM).length ≤ 100; decide) (fun s hs => by cases hs)
  unfold tptr at OB
  replace OB := Lib.hid OB
  go_wp2_with fail
  refine OB.out.mono ?_
  rintro e w8 ⟨v8, rfl, hS8, hB8⟩
  have hBw8 := hBw7.trans (hB8.mono hBw7.size)
  change HS w8 _ v8 [] at hS8
  obtain ⟨A8, n8, c8, rfl⟩ := hS8.shape
  replace hS8 := Lib.hid hS8
  rw [show (newT 1 o ⟨#[107]⟩ xs).okey = (⟨#[]⟩ : ByteArray) from rfl, show (newT 1 o ⟨#[107]⟩ xs).oid = 0 from rfl, show (newT 1 o ⟨#[107]⟩ xs).osz = 0 from rfl]
  go_wp2_with fail
  obtain ⟨W9, hW9⟩ : ∃ W, (w8.alloc (.cells #[.string ⟨#[]⟩, .int .i64 0, .int .i64 0, .slice A8 n8 c8] 32)).alloc (.cells #[.string ⟨#[]⟩, .int .i64 0, .int .i64 0, .slice none 0 0] 32) = W := ⟨_, rfl⟩
  have hb1 : W9.heap[w8.heap.size]? = some (.cells #[.string ⟨#[]⟩, .int .i64 0, .int .i64 0, .slice A8 n8 c8] 32 (0, 0)) := by rw [← hW9]; exact blk_alloc (heap_alloc_new w8 _) _
  have hb2 : W9.heap[w8.heap.size + 1]? = some (.cells #[.string ⟨#[]⟩, .int .i64 0, .int .i64 0, .slice none 0 0] 32 (0, 0)) := by rw [← hW9]; exact heap_alloc2_new w8 _ _
  have hB9 : Below w8.heap.size w8 W9 := by rw [← hW9]; exact ((Below.refl _ w8).alloc (Nat.le_refl _) _).alloc (by simp) _
  rw [hW9]
  refine (objects_same _ _ 1 1 _ _ _ 0 0 _ _ _ 0 [] W9 hb1 hb2 (hS8.out.below hB9) (HS.nil _ _)).mono ?_
  rintro e w10 ⟨rfl, q, rfl⟩
  go_wp2
  go_ret
  exact ⟨rfl, below_drewN' (hBw8.trans (hB9.mono hBw8.size)) q⟩
end Go.Proofs.YtblddkjdglliaaaGreatDoor
