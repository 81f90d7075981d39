/- Rows of bytes in memory (Row); contract: mat.add. -/
import Derived.Test.YtblddkjdglliaaaGreatDoorTab
namespace Go.Proofs.YtblddkjdglliaaaGreatDoor
open Go.RowKit

/-- Block g is a row of these bytes. -/
def Row (w : World) (g : Nat) (bs : List Int) : Prop := w.heap[g]? = some (.cells (ints .u8 bs).toArray 5 (0, 0))
theorem Row.cell {w : World} {g : Nat} {bs : List Int} (h : Row w g bs) (i : Nat) (hi : i < bs.length) : w.cell? ⟨g, i, none⟩ = some (.int .u8 (bs[i]?.getD 0)) := by
  rw [cell_of_blk h, List.getElem?_toArray, ints_get _ _ _ hi]
theorem Row.frozen {w : World} {g : Nat} {bs : List Int} (h : Row w g bs) (i : Nat) : w.frozen? ⟨g, i, none⟩ = false := frozen_of_blk h i
theorem Row.set {w : World} {g : Nat} {bs : List Int} (h : Row w g bs) (i : Nat) (y : Int) : Row (w.setCell ⟨g, i, none⟩ (.int .u8 y)) g (bs.set i y) := by
  have := blk_setCell h i (.int .u8 y)
  rw [List.setIfInBounds_toArray] at this
  unfold Row
  rw [this]
  simp [ints, List.map_set]
theorem Row.HB {w : World} {g : Nat} {bs : List Int} (h : Row w g bs) (hr : ∀ x ∈ bs, 0 ≤ x ∧ x ≤ 255) (hl : bs.length ≤ 60000) (n : Nat) (hn : n = bs.length) : HB w (.slice (some ⟨g, 0, none⟩) n n) bs := by
  subst hn
  refine ⟨_, _, rfl, Nat.le_refl _, by omega, hl, hr, fun _ => ⟨g, 0, _, _, rfl, h, fun i hi => ?_⟩⟩
  rw [Nat.zero_add, List.getElem?_toArray, ints_get _ _ _ hi]
theorem Row.made (w : World) (n : Nat) : Row (w.alloc (.cells (madeCells #[Value.int .u8 0] n) 5)) w.heap.size (List.replicate n 0) := by
  unfold Row
  rw [heap_alloc_new]
  congr 2
  apply Array.toList_inj.1
  rw [toList_madeCells_one]
  simp [ints]
theorem set_of_take {α : Type} (bs : List α) (k : Nat) (y : α) (f : Nat → α) (d : α) (hf : f k = y) :
    ((List.range bs.length).map fun i => if i < k then f i else bs[i]?.getD d).set k y = (List.range bs.length).map fun i => if i < k + 1 then f i else bs[i]?.getD d := by
  apply List.ext_getElem
  · simp
  · intro i h1 h2
    simp at h1
    rw [List.getElem_set]
    by_cases e : k = i
    · subst e; simp [hf]
    · rw [if_neg e]
      simp only [List.getElem_map, List.getElem_range]
      by_cases hi : i < k
      · rw [if_pos hi, if_pos (by omega)]
      · rw [if_neg hi, if_neg (by omega)]
theorem list_range_self {α : Type} (bs : List α) (d : α) (f : Nat → α) : ((List.range bs.length).map fun i => if i < 0 then f i else bs[i]?.getD d) = bs := by
  apply List.ext_getElem
  · simp
  · intro i h1 h2; simp [List.getElem?_eq_getElem h2]

/-! ### add -/
def addAt (rs os : List Int) (x : Int) (i : Nat) : Int := bits BinOp.xor IntKind.u8 (rs[i]?.getD 0) (gfMul x (os[i]?.getD 0))
/-- rs and x times os. -/
def addK (rs os : List Int) (x : Int) (k : Nat) : List Int := (List.range rs.length).map fun i => if i < k then addAt rs os x i else rs[i]?.getD 0
def addL (rs os : List Int) (x : Int) : List Int := addK rs os x os.length
theorem addK_length (rs os : List Int) (x : Int) (k : Nat) : (addK rs os x k).length = rs.length := by simp [addK]
theorem addK_get (rs os : List Int) (x : Int) (k : Nat) (h : k < rs.length) : (addK rs os x k)[k]?.getD 0 = rs[k]?.getD 0 := by simp [addK, h]
theorem addK_range (rs os : List Int) (x : Int) (k : Nat) (h : ∀ y ∈ rs, 0 ≤ y ∧ y ≤ 255) : ∀ y ∈ addK rs os x k, 0 ≤ y ∧ y ≤ 255 := by
  intro y hy
  simp only [addK, List.mem_map] at hy
  obtain ⟨i, _, rfl⟩ := hy
  split
  · exact bits_u8 _ _ _
  · exact range_at h i
theorem addK_set (rs os : List Int) (x : Int) (k : Nat) : (addK rs os x k).set k (addAt rs os x k) = addK rs os x (k + 1) := set_of_take rs k _ (addAt rs os x) 0 rfl
set_option maxRecDepth 100000 in
set_option maxHeartbeats 400000 in
theorem add_any (g n : Nat) (v : Value) (rs os : List Int) (x : Int) (w0 w : World) (hB : Below w0.heap.size w0 w) (hg : w0.heap.size ≤ g) (hn : n = rs.length) (h1 : Row w g rs) (hr : ∀ y ∈ rs, 0 ≤ y ∧ y ≤ 255) (hx : 0 ≤ x ∧ x ≤ 255) (h2 : HB w0 v os) (ho : os.length ≤ n) :
    Calls Tryz.prog 164 #[.slice (some ⟨g, 0, none⟩) n n, v, .int .u8 x] w fun e w' => (∃ u, e = .returned u) ∧ Row w' g (addL rs os x) ∧ Chg (fun k => k = g) w w' := by
  obtain ⟨A, m, c, rfl⟩ := h2.shape
  obtain ⟨hm, hmc, hc⟩ := h2.cell
  have hml := h2.len
  rw [← hm] at ho hml
  obtain ⟨W0, hW0⟩ : ∃ W, W = w := ⟨_, rfl⟩
  rw [← hW0]
  have hst : Row W0 g (addK rs os x 0) := by rw [hW0]; unfold addK; rw [list_range_self]; exact h1
  have hBW : Below w0.heap.size w0 W0 := by rw [hW0]; exact hB
  have HB0 := Lib.hid h2
  have HN := Lib.hid hn
  have HM0 := Lib.hid hm
  clear h1 hB hW0 h2 hn hm w
  go_enter Tryz.func164, Tryz.ntmps164
  go_wp2
  go_loopw [10] (fun i wr => ∃ k : Nat, k ≤ m ∧ i = .int .i64 k ∧ Row wr g (addK rs os x k) ∧ Chg (fun j => j = g) W0 wr) (fun i _ => m - (intOf i).toNat)
  case atStart => exact ⟨0, by omega, rfl, hst, Chg.refl _ _⟩
  case round =>
    obtain ⟨k, hk, rfl, hrow, hch⟩ := hrel
    by_cases hlt : k < m
    · obtain ⟨b, o, rfl, hcell⟩ := hc k hlt
      have hkn : k < n := by omega
      have hcw : wr.cell? ⟨b, o + k, none⟩ = some (.int .u8 (os[k]?.getD 0)) := by
        have hb : b < w0.heap.size := by
          obtain ⟨b', o', e, _, hq⟩ : ∃ b' o', some (⟨b, o, none⟩ : Addr) = some ⟨b', o', none⟩ ∧ True ∧ b' < w0.heap.size := by
            obtain ⟨A', c', e1, _, _, _, _, h6⟩ := HB0.out
            simp only [Value.slice.injEq] at e1
            obtain ⟨rfl, e2, rfl⟩ := e1
            obtain ⟨b', o', cur, fr, e, hq, _⟩ := h6 (by omega)
            exact ⟨b', o', e, trivial, blk_lt hq⟩
          cases e; exact hq
        have e1 := hBW.cell (p := ⟨b, o + k, none⟩) hb
        have e2 : wr.heap[b]? = W0.heap[b]? := hch.block b (Nat.lt_of_lt_of_le hb hBW.size) (by omega)
        rw [← hcell, ← e1]
        simp [World.cell?, e2]
      have hcr : wr.cell? ⟨g, k, none⟩ = some (.int .u8 (rs[k]?.getD 0)) := by
        rw [hrow.cell k (by rw [addK_length, ← HN.out]; exact hkn), addK_get _ _ _ _ (by rw [← HN.out]; exact hkn)]
      have hfr := hrow.frozen k
      have hok := HB0.out.at_ k
      have hrk := range_at hr k
      have hset : addAt rs os x k = bits BinOp.xor IntKind.u8 (rs[k]?.getD 0) (gfMul x (os[k]?.getD 0)) := rfl
      have HSET := Lib.hid hset
      have HROW := Lib.hid hrow
      clear hset hrow hc
      generalize os[k]?.getD 0 = y at *
      generalize rs[k]?.getD 0 = z at *
      go_wp2
      go_region_law (go_simp; go_at_call 194; refine (mul_any _ _ _ hx hok).mono ?_; rintro e w' ⟨rfl, rfl⟩)
      all_goals go_wp2
      all_goals go_roundw
      all_goals first
        | (case rel =>
            refine ⟨k + 1, by omega, by go_num, ?_, ?_⟩
            · rw [← addK_set, HSET.out]
              exact HROW.out.set k _
            · exact (hch.then_drew).then_setCell (a := ⟨g, k, none⟩) (.inl rfl) _)
        | (case measure => simp [intOf]; omega)
    · obtain rfl : k = m := by omega
      go_wp2
      go_end0
      exact ⟨⟨_, rfl⟩, by rw [addL, ← HM0.out]; exact hrow, hch⟩
end Go.Proofs.YtblddkjdglliaaaGreatDoor
