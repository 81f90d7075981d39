/- Contracts of package pool. Conditions: a pool that lies as IsPool says. -/
import Derived.Test.YtblddkjdglliaaaGreatDoorDrive
namespace Go.Proofs.YtblddkjdglliaaaGreatDoor
open Go.RowKit

theorem Tryz.EP : Elem Tryz.prog 95 76 1 8 := Elem.of Tryz.underlying95 (z := .pointer none) (by kernel_rfl) rfl (by omega)

structure PoolM where
  list : List DriveM
  fuse : Int
  down : Bool
/-- Where a pool lies: the list's value; of each drive its block and its two rows. -/
structure Lay where
  pv : Value
  ds : List (Nat × Value × Value)

def PFp (p : Nat) (L : Lay) (k : Nat) : Prop := k = p ∨ L.pv.ownBlock = some k ∨ ∃ x ∈ L.ds, DFp x.1 x.2.1 x.2.2 k

structure IsPool (w : World) (p : Nat) (L : Lay) (m : PoolM) : Prop where
  blk : w.heap[p]? = some (.cells #[L.pv, .int .i64 m.fuse, .bool m.down] 97 (0, 0))
  row : w.ownsRow 0 76 1 L.pv m.list.length (L.ds.map fun x => dptr x.1)
  len : L.ds.length = m.list.length
  few : m.list.length ≤ 12
  drives : ∀ (i : Nat) x d, L.ds[i]? = some x → m.list[i]? = some d → IsDrive w x.1 x.2.1 x.2.2 d
  apart : ∀ (i j : Nat) x y, L.ds[i]? = some x → L.ds[j]? = some y → i ≠ j → ∀ k, DFp x.1 x.2.1 x.2.2 k → ¬ DFp y.1 y.2.1 y.2.2 k
  fuseR : -1 ≤ m.fuse ∧ m.fuse ≤ 9223372036854775807

theorem DFp_ty {w : World} {b : Nat} {lv wv : Value} {d : DriveM} (h : IsDrive w b lv wv d) {k : Nat} (hk : DFp b lv wv k) : ∃ cur e, w.heap[k]? = some (.cells cur e (0, 0)) ∧ (e = 124 ∨ e = 22 ∨ e = 149) := by
  rcases hk with rfl | hk | hk
  · exact ⟨_, _, h.blk, .inl rfl⟩
  · obtain ⟨ls, l1, _⟩ := h.lasts
    obtain ⟨cur, e⟩ := own_ty l1 k hk
    exact ⟨cur, _, e, .inr (.inl rfl)⟩
  · obtain ⟨us, l1, _⟩ := h.loose
    obtain ⟨cur, e⟩ := own_ty l1 k hk
    exact ⟨cur, _, e, .inr (.inr rfl)⟩
theorem IsPool.get {w : World} {p : Nat} {L : Lay} {m : PoolM} (h : IsPool w p L m) {i : Nat} (hi : i < m.list.length) : ∃ x, L.ds[i]? = some x ∧ IsDrive w x.1 x.2.1 x.2.2 (m.list[i]?.getD .gone) := by
  have hl : i < L.ds.length := by rw [h.len]; exact hi
  refine ⟨_, List.getElem?_eq_getElem hl, ?_⟩
  rw [List.getElem?_eq_getElem hi]
  exact h.drives i _ _ (List.getElem?_eq_getElem hl) (List.getElem?_eq_getElem hi)
theorem PFp_ty {w : World} {p : Nat} {L : Lay} {m : PoolM} (h : IsPool w p L m) {k : Nat} (hk : PFp p L k) :
    ∃ cur e, w.heap[k]? = some (.cells cur e (0, 0)) ∧ (e = 97 ∨ e = 76 ∨ e = 124 ∨ e = 22 ∨ e = 149) := by
  rcases hk with rfl | hk | ⟨x, hx, hk⟩
  · exact ⟨_, _, h.blk, .inl rfl⟩
  · obtain ⟨cur, e⟩ := own_ty h.row k hk
    exact ⟨cur, _, e, .inr (.inl rfl)⟩
  · obtain ⟨i, hi, rfl⟩ := List.getElem_of_mem hx
    obtain ⟨y, hy, hd⟩ := h.get (i := i) (by rw [← h.len]; exact hi)
    rw [List.getElem?_eq_getElem hi] at hy
    cases hy
    obtain ⟨cur, e, h1, h2⟩ := DFp_ty hd hk
    exact ⟨cur, e, h1, .inr (.inr h2)⟩
theorem PFp_u8 {w : World} {p : Nat} {L : Lay} {m : PoolM} (h : IsPool w p L m) : ∀ (k : Nat) (cur : Array Value) (fr : Nat × Nat), PFp p L k → w.heap[k]? ≠ some (.cells cur 5 fr) := by
  intro k cur fr hk e
  obtain ⟨cur', e', h1, h2⟩ := PFp_ty h hk
  rw [h1] at e; cases e
  rcases h2 with h2 | h2 | h2 | h2 | h2 <;> cases h2
theorem PFp_lt {w : World} {p : Nat} {L : Lay} {m : PoolM} (h : IsPool w p L m) : ∀ k, PFp p L k → k < w.heap.size := by
  intro k hk
  obtain ⟨cur, e, h1, _⟩ := PFp_ty h hk
  exact blk_lt h1
theorem IsPool.keep {w w' : World} {p : Nat} {L : Lay} {m : PoolM} (h : IsPool w p L m) {O : Nat → Prop} (hc : Chg O w w') (h1 : ∀ k, PFp p L k → ¬ O k) (h4 : ∀ (k : Nat) (cur : Array Value) (fr : Nat × Nat), O k → w.heap[k]? ≠ some (.cells cur 5 fr)) : IsPool w' p L m :=
  ⟨hc.blk h.blk (h1 p (.inl rfl)), own_chg h.row hc (fun k hk => h1 k (.inr (.inl hk))), h.len, h.few,
   fun i x d hx hd => (h.drives i x d hx hd).keep hc (h1 _ (.inr (.inr ⟨x, List.mem_of_getElem? hx, .inl rfl⟩))) (fun _ hk => h1 _ (.inr (.inr ⟨x, List.mem_of_getElem? hx, .inr (.inl hk)⟩))) (fun _ hk => h1 _ (.inr (.inr ⟨x, List.mem_of_getElem? hx, .inr (.inr hk)⟩))) h4,
   h.apart, h.fuseR⟩
theorem IsPool.below {w w' : World} {p : Nat} {L : Lay} {m : PoolM} (h : IsPool w p L m) (hb : Below w.heap.size w w') : IsPool w' p L m :=
  h.keep (O := fun _ => False) (Chg.of_below hb) (fun _ _ => id) (fun _ _ _ x => x.elim)

/-- What a call on the pool does to memory: it writes what the pool has, or new blocks. -/
structure PStep (p : Nat) (w w' : World) (L L' : Lay) : Prop where
  chg : Chg (PFp p L) w w'
  fp : ∀ k, PFp p L' k → PFp p L k ∨ w.heap.size ≤ k
theorem PStep.of_below {p : Nat} {w w' : World} {L : Lay} (h : Below w.heap.size w w') : PStep p w w' L L := ⟨Chg.of_below h, fun _ h => .inl h⟩
theorem PStep.trans {p : Nat} {a b c : World} {L L1 L2 : Lay} (h : PStep p a b L L1) (k : PStep p b c L1 L2) : PStep p a c L L2 :=
  ⟨h.chg.trans k.chg fun i hi x => by rcases h.fp i x with y | y; exact y; omega,
   fun i x => by rcases k.fp i x with y | y; exact h.fp i y; exact .inr (Nat.le_trans h.chg.size y)⟩

def pptr (p : Nat) : Value := .pointer (some ⟨p, 0, none⟩)

/-- One drive has changed: the pool has. -/
theorem IsPool.set_drive {w w' : World} {p : Nat} {L : Lay} {m : PoolM} (h : IsPool w p L m) {i : Nat} {x y : Nat × Value × Value} {d' : DriveM} (hx : L.ds[i]? = some x) (hi : i < m.list.length)
    (hc : Chg (DFp x.1 x.2.1 x.2.2) w w') (hd : IsDrive w' y.1 y.2.1 y.2.2 d') (hb : y.1 = x.1) (hf : ∀ k, DFp y.1 y.2.1 y.2.2 k → DFp x.1 x.2.1 x.2.2 k ∨ w.heap.size ≤ k) :
    IsPool w' p { L with ds := L.ds.set i y } { m with list := m.list.set i d' } ∧ PStep p w w' L { L with ds := L.ds.set i y } := by
  obtain ⟨x', hx', hdx⟩ := h.get hi
  rw [hx] at hx'; cases hx'
  have hty : ∀ (e : TypeId), e ≠ 124 → e ≠ 22 → e ≠ 149 → ∀ (k : Nat) (cur : Array Value) (fr : Nat × Nat), DFp x.1 x.2.1 x.2.2 k → w.heap[k]? ≠ some (.cells cur e fr) := by
    intro e e1 e2 e3 k cur fr hk he
    obtain ⟨cur', e', h1, h2⟩ := DFp_ty hdx hk
    rw [h1] at he; cases he
    rcases h2 with h2 | h2 | h2
    · exact e1 h2
    · exact e2 h2
    · exact e3 h2
  have hil : i < L.ds.length := by rw [h.len]; exact hi
  have hxi : L.ds[i] = x := by rw [List.getElem?_eq_getElem hil] at hx; exact Option.some.inj hx
  refine ⟨⟨hc.blk h.blk fun o => hty 97 (by decide) (by decide) (by decide) _ _ _ o h.blk, ?_, by simp [h.len], by simpa using h.few, ?_, ?_, h.fuseR⟩, ?_, ?_⟩
  · have e : (L.ds.set i y).map (fun x => dptr x.1) = L.ds.map (fun x => dptr x.1) := by
      apply List.ext_getElem (by simp)
      intro j h1 h2
      simp only [List.getElem_map, List.getElem_set]
      split
      · rename_i e; subst e; rw [hb, hxi]
      · rfl
    simp only [e, List.length_set]
    exact own_chg h.row hc fun k hk o => by
      obtain ⟨cur, e⟩ := own_ty h.row k hk
      exact hty 76 (by decide) (by decide) (by decide) _ _ _ o e
  · intro j z d hz hd'
    simp only [List.getElem?_set] at hz hd'
    by_cases e : i = j
    · subst e
      rw [if_pos rfl, if_pos hil] at hz
      rw [if_pos rfl, if_pos hi] at hd'
      cases hz; cases hd'; exact hd
    · rw [if_neg e] at hz hd'
      have ap := h.apart j i z x hz hx (Ne.symm e)
      exact (h.drives j z d hz hd').keep hc (ap _ (.inl rfl)) (fun k hk => ap k (.inr (.inl hk))) (fun k hk => ap k (.inr (.inr hk))) (hty 5 (by decide) (by decide) (by decide))
  · intro j1 j2 z1 z2 hz1 hz2 hne k hk1 hk2
    simp only [List.getElem?_set] at hz1 hz2
    by_cases e1 : i = j1
    · subst e1
      rw [if_pos rfl, if_pos hil] at hz1; cases hz1
      rw [if_neg hne] at hz2
      rcases hf k hk1 with q | q
      · exact h.apart i j2 x z2 hx hz2 hne k q hk2
      · have := PFp_lt h k (.inr (.inr ⟨z2, List.mem_of_getElem? hz2, hk2⟩)); omega
    · rw [if_neg e1] at hz1
      by_cases e2 : i = j2
      · subst e2
        rw [if_pos rfl, if_pos hil] at hz2; cases hz2
        rcases hf k hk2 with q | q
        · exact h.apart j1 i z1 x hz1 hx hne k hk1 q
        · have := PFp_lt h k (.inr (.inr ⟨z1, List.mem_of_getElem? hz1, hk1⟩)); omega
      · rw [if_neg e2] at hz2
        exact h.apart j1 j2 z1 z2 hz1 hz2 hne k hk1 hk2
  · exact hc.mono fun k _ hk => .inr (.inr ⟨x, List.mem_of_getElem? hx, hk⟩)
  · rintro k (rfl | hk | ⟨z, hz, hk⟩)
    · exact .inl (.inl rfl)
    · exact .inl (.inr (.inl hk))
    · rcases List.mem_or_eq_of_mem_set hz with hz | rfl
      · exact .inl (.inr (.inr ⟨z, hz, hk⟩))
      · rcases hf k hk with q | q
        · exact .inl (.inr (.inr ⟨x, List.mem_of_getElem? hx, q⟩))
        · exact .inr q
/-- The fuse, the power. -/
theorem IsPool.set_head {w w' : World} {p : Nat} {L : Lay} {m : PoolM} (h : IsPool w p L m) {f : Int} {d : Bool} (hc : Chg (fun k => k = p) w w') (hb : w'.heap[p]? = some (.cells #[L.pv, .int .i64 f, .bool d] 97 (0, 0))) (hf : -1 ≤ f ∧ f ≤ 9223372036854775807) :
    IsPool w' p L { m with fuse := f, down := d } ∧ PStep p w w' L L := by
  have hty : ∀ (e : TypeId), e ≠ 97 → ∀ (k : Nat) (cur : Array Value) (fr : Nat × Nat), k = p → w.heap[k]? ≠ some (.cells cur e fr) := by
    rintro e he k cur fr rfl e'
    rw [h.blk] at e'; cases e'; exact he rfl
  have hD : ∀ (i : Nat) (x : Nat × Value × Value) (d : DriveM), L.ds[i]? = some x → m.list[i]? = some d → ∀ k, DFp x.1 x.2.1 x.2.2 k → ¬ k = p := by
    rintro i x d hx hd k hk rfl
    obtain ⟨cur, e, h1, h2⟩ := DFp_ty (h.drives i x d hx hd) hk
    rw [h.blk] at h1; cases h1
    rcases h2 with h2 | h2 | h2 <;> cases h2
  refine ⟨⟨hb, own_chg h.row hc fun k hk o => ?_, h.len, h.few, fun i x d hx hd => (h.drives i x d hx hd).keep hc (hD i x d hx hd _ (.inl rfl)) (fun k hk => hD i x d hx hd k (.inr (.inl hk))) (fun k hk => hD i x d hx hd k (.inr (.inr hk))) (hty 5 (by decide)), h.apart, hf⟩, hc.mono fun k _ hk => .inl hk, fun k hk => .inl hk⟩
  obtain ⟨cur, e⟩ := own_ty h.row k hk
  exact hty 76 (by decide) _ _ _ o e
end Go.Proofs.YtblddkjdglliaaaGreatDoor
