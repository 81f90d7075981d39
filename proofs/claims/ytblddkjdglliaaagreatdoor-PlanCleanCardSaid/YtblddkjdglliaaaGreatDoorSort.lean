/- Contract: slices.SortFunc at drives and weights (at most 12), by the shelf. -/
import Derived.Test.YtblddkjdglliaaaGreatDoorNear
import Derived.Test.YtblddkjdglliaaaGreatDoorShelfS
namespace Go.Proofs.YtblddkjdglliaaaGreatDoor
open Go.RowKit Go.Sort

/-- A drive and its weight, as cells. -/
def encN (x : Int × Int) : List Value := [.int .i64 x.1, .int .u64 x.2]
theorem nearLays (blk off size : Nat) (w : World) : CmpLays Tryz.prog 127 #[] encN 2 nearC blk off size w :=
  fun _ _ _ _ x y => nearer_any x.1 x.2 y.1 y.2 _
theorem bitLen12 (n : Nat) (W : World) (_ : n ≤ 12) : Calls Tryz.prog 115 #[.int .u64 n] W fun e w' => (∃ l : Int, e = .returned (.int .i64 l)) ∧ w' = W :=
  (Tryz.bits_Len n W (by omega) (by omega)).mono fun _ _ ⟨he, hw⟩ => ⟨⟨_, he⟩, hw⟩
theorem ltNear (x y : Int × Int) : ltOf nearC x y = decide (y.2 < x.2 ∨ (y.2 = x.2 ∧ x.1 < y.1)) := by
  unfold ltOf nearC or2 Lib.compareInt
  rw [decide_eq_decide]
  repeat' split
  all_goals omega
theorem nearSWO : SWO (ltOf nearC) := by
  refine ⟨fun x => ?_, fun x y z => ?_, fun x y z => ?_⟩ <;> simp only [ltNear, decide_eq_true_eq, decide_eq_false_iff_not] <;> omega
/-- The drives in their order. -/
def sortN (l : List (Int × Int)) : List (Int × Int) := (Sort.insertionSort (ltOf nearC) l.toArray 0 l.length).toList
theorem sort_any (g cap : Nat) (l : List (Int × Int)) (w : World) (hl : l.length ≤ 12) (hg : g < w.heap.size)
    (hc : ∀ j, j < l.length → w.cell? ⟨g, 2 * j, none⟩ = some (.int .i64 (l[j]?.getD (0, 0)).1) ∧ w.cell? ⟨g, 2 * j + 1, none⟩ = some (.int .u64 (l[j]?.getD (0, 0)).2)) (hf : ∀ i, w.frozen? ⟨g, i, none⟩ = false) :
    Calls Tryz.prog 126 #[.slice (some ⟨g, 0, none⟩) l.length cap, .func (.func 127) #[] #[]] w fun e w' => e = .returned (.tuple #[]) ∧ Chg (fun k => k = g) w w' ∧
      (sortN l).length = l.length ∧ ∀ j, j < l.length → w'.cell? ⟨g, 2 * j, none⟩ = some (.int .i64 ((sortN l)[j]?.getD (0, 0)).1) ∧ w'.cell? ⟨g, 2 * j + 1, none⟩ = some (.int .u64 ((sortN l)[j]?.getD (0, 0)).2) := by
  have eg : ∀ args w, (callFunc 127 args).run Tryz.prog w = .ok (.enter 127 args) w := enters_of Tryz.func127 (by kernel_rfl) rfl
  have hH : HoldsK encN 2 w g 0 l.toArray := by
    intro t ht
    rw [size_flatK] at ht
    refine ⟨?_, by simpa using hf _⟩
    rw [get_flatK _ _ _ _ ht]
    have h2 : t / 2 < l.length := by simp at ht; omega
    obtain ⟨a, b⟩ := hc (t / 2) h2
    have e0 : l.toArray[t / 2]! = l[t / 2]?.getD (0, 0) := by
      rw [getElem!_pos _ _ (by simpa using h2)]
      simp [List.getElem?_eq_getElem h2]
    rw [e0]
    rcases Nat.mod_two_eq_zero_or_one t with h | h
    · rw [h, show 0 + t = 2 * (t / 2) by omega, a]; rfl
    · rw [h, show 0 + t = 2 * (t / 2) + 1 by omega, b]; rfl
  have hcon := AnyQ.slices_SortFunc_small Tryz.sortNear 2 Tryz.isAgg172 Tryz.sizeOf172 encN (fun _ => rfl) (fun x v hv => by simp [encN] at hv; rcases hv with rfl | rfl <;> rfl) nearC 127 #[] g 0 cap l.toArray w eg (nearLays g 0 _ w) hH hg (by simpa using hl) bitLen12
  change Calls Tryz.prog 126 _ _ _ at hcon
  refine hcon.mono ?_
  rintro e w' ⟨rfl, n, os, hw⟩
  have hsz : (Sort.insertionSort (ltOf nearC) l.toArray 0 l.toArray.size).size = l.toArray.size := (insertionSort_holds nearSWO l.toArray 0 l.toArray.size (Nat.zero_le _) (Nat.le_refl _)).1.1
  have hsl : sortN l = (Sort.insertionSort (ltOf nearC) l.toArray 0 l.toArray.size).toList := by simp [sortN]
  have hln : (sortN l).length = l.length := by rw [hsl, Array.length_toList, hsz]; simp
  have hHn : HoldsK encN 2 w' g 0 (Sort.insertionSort (ltOf nearC) l.toArray 0 l.toArray.size) := by
    rw [hw]; exact holdsK_sortWorldK_c encN 2 w g 0 l.toArray _ n os hH hg hsz
  refine ⟨rfl, ?_, hln, fun j hj => ?_⟩
  · rw [hw]
    unfold sortWorldK
    refine ⟨rfl, rfl, rfl, ?_, fun k hk hn => ?_⟩
    · have := size_sortWorldK_c encN 2 w g 0 n (Sort.insertionSort (ltOf nearC) l.toArray 0 l.toArray.size) os
      exact this
    · show (((putRowK encN 2 (Sort.ahead w n) g 0 _).heap ++ os)[k]?) = _
      rw [Array.getElem?_append_left (by rw [size_putRowK]; exact hk)]
      simp only [putRowK, putRow, mapBlock, Array.getElem?_modify]
      rw [if_neg (fun e => hn e.symm)]
      rfl
  · generalize hD : Sort.insertionSort (ltOf nearC) l.toArray 0 l.toArray.size = D at *
    have hj' : j < D.size := by rw [hsz]; simpa using hj
    have e0 : D[j]! = (sortN l)[j]?.getD (0, 0) := by
      rw [hsl, getElem!_pos D j hj', Array.getElem?_toList, Array.getElem?_eq_getElem hj']
      rfl
    have a := (hHn (2 * j) (by rw [size_flatK]; omega)).1
    have b := (hHn (2 * j + 1) (by rw [size_flatK]; omega)).1
    rw [Nat.zero_add, get_flatK _ _ _ _ (by omega)] at a b
    rw [show 2 * j / 2 = j by omega, show 2 * j % 2 = 0 by omega, e0] at a
    rw [show (2 * j + 1) / 2 = j by omega, show (2 * j + 1) % 2 = 1 by omega, e0] at b
    exact ⟨a, b⟩
end Go.Proofs.YtblddkjdglliaaaGreatDoor
