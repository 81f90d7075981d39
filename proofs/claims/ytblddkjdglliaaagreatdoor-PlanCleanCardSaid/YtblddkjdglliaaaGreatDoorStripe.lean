/- Stripes in memory; contracts: rec.Clone, rec.Own. -/
import Derived.Test.YtblddkjdglliaaaGreatDoorInts
namespace Go.Proofs.YtblddkjdglliaaaGreatDoor
open Go.RowKit

structure StripeM where
  id : Int
  epoch : Int
  locs : List Int
def StripeM.zero : StripeM := ⟨0, 0, []⟩
/-- Stripes' cells, the places' slices given. -/
def cellsS : List StripeM → List Value → List Value
  | s :: l, u :: us => .int .i64 s.id :: .int .i64 s.epoch :: u :: cellsS l us
  | _, _ => []
theorem cellsS_length (l : List StripeM) (us : List Value) (h : us.length = l.length) : (cellsS l us).length = l.length * 3 := by
  induction l generalizing us with
  | nil => simp [cellsS]
  | cons s l ih =>
    cases us with
    | nil => simp at h
    | cons u us => have := ih us (by simpa using h); simp [cellsS] at *; omega
theorem cellsS_snoc (l : List StripeM) (us : List Value) (h : us.length = l.length) (s : StripeM) (u : Value) : cellsS (l ++ [s]) (us ++ [u]) = cellsS l us ++ [.int .i64 s.id, .int .i64 s.epoch, u] := by
  induction l generalizing us with
  | nil => obtain rfl := List.eq_nil_of_length_eq_zero (by simpa using h); rfl
  | cons a l ih =>
    cases us with
    | nil => simp at h
    | cons b us => have := ih us (by simpa using h); simp [cellsS, this]
theorem cellsS_get (l : List StripeM) (us : List Value) (h : us.length = l.length) (i : Nat) (hi : i < l.length) :
    (cellsS l us)[3 * i]? = some (.int .i64 (l[i]?.getD .zero).id) ∧ (cellsS l us)[3 * i + 1]? = some (.int .i64 (l[i]?.getD .zero).epoch) ∧ (cellsS l us)[3 * i + 2]? = us[i]? := by
  induction l generalizing us i with
  | nil => simp at hi
  | cons s l ih =>
    cases us with
    | nil => simp at h
    | cons u us =>
      cases i with
      | zero => simp [cellsS]
      | succ i =>
        have := ih us (by simpa using h) i (by simpa using hi)
        simpa [cellsS, Nat.mul_add, Nat.add_assoc] using this
/-- The slice v reads as these stripes; all it leads to lies at B or behind. -/
def HS (w : World) (B : Nat) (v : Value) (l : List StripeM) : Prop :=
  ∃ A c, v = .slice A l.length c ∧ l.length ≤ c ∧ c ≤ 9223372036854775807 ∧
    (0 < l.length → ∃ b cur fr, A = some ⟨b, 0, none⟩ ∧ B ≤ b ∧ w.heap[b]? = some (.cells cur 36 fr) ∧
      ∀ i, i < l.length → ∃ u, cur[3 * i]? = some (.int .i64 (l[i]?.getD .zero).id) ∧ cur[3 * i + 1]? = some (.int .i64 (l[i]?.getD .zero).epoch) ∧ cur[3 * i + 2]? = some u ∧ HI w u (l[i]?.getD .zero).locs ∧ FreshV B u)
theorem HS.nil (w : World) (B : Nat) : HS w B (.slice none 0 0) [] := ⟨none, 0, rfl, by simp, by decide, by simp⟩
theorem HS.shape {w : World} {B : Nat} {v : Value} {l : List StripeM} (h : HS w B v l) : ∃ A n c, v = .slice A n c := by obtain ⟨A, c, h, _⟩ := h; exact ⟨_, _, _, h⟩
theorem FreshV.mono {B B' : Nat} {v : Value} (h : FreshV B v) (hb : B' ≤ B) : FreshV B' v := fun k hk => Nat.le_trans hb (h k hk)
theorem HS.mono {w : World} {B B' : Nat} {v : Value} {l : List StripeM} (h : HS w B v l) (hb : B' ≤ B) : HS w B' v l := by
  obtain ⟨A, c, h1, h2, h3, h4⟩ := h
  refine ⟨A, c, h1, h2, h3, fun hp => ?_⟩
  obtain ⟨b, cur, fr, e, hB, hk, hc⟩ := h4 hp
  refine ⟨b, cur, fr, e, Nat.le_trans hb hB, hk, fun i hi => ?_⟩
  obtain ⟨u, c0, c1, c2, hu, hf⟩ := hc i hi
  exact ⟨u, c0, c1, c2, hu, hf.mono hb⟩
theorem HS.keep {w w' : World} {B : Nat} {v : Value} {l : List StripeM} (h : HS w B v l) (hk : ∀ (b : Nat) (cur : Array Value) (t : TypeId) (fr : Nat × Nat), t = 3 ∨ t = 36 → w.heap[b]? = some (.cells cur t fr) → w'.heap[b]? = some (.cells cur t fr)) : HS w' B v l := by
  obtain ⟨A, c, h1, h2, h3, h4⟩ := h
  refine ⟨A, c, h1, h2, h3, fun hp => ?_⟩
  obtain ⟨b, cur, fr, e, hB, hb, hc⟩ := h4 hp
  refine ⟨b, cur, fr, e, hB, hk _ _ _ _ (.inr rfl) hb, fun i hi => ?_⟩
  obtain ⟨u, c0, c1, c2, hu, hf⟩ := hc i hi
  exact ⟨u, c0, c1, c2, hu.keep fun _ _ _ k => hk _ _ _ _ (.inl rfl) k, hf⟩
theorem HS.below {w w' : World} {B : Nat} {v : Value} {l : List StripeM} (h : HS w B v l) (hb : Below w.heap.size w w') : HS w' B v l := h.keep fun _ _ _ _ _ k => below_blk hb k
theorem HS.chg {O : Nat → Prop} {w w' : World} {B : Nat} {v : Value} {l : List StripeM} (h : HS w B v l) (hc : Chg O w w') (ho : ∀ (b : Nat) (cur : Array Value) (t : TypeId) (fr : Nat × Nat), t = 3 ∨ t = 36 → O b → w.heap[b]? ≠ some (.cells cur t fr)) : HS w' B v l :=
  h.keep fun _ _ _ _ ht k => hc.blk k fun o => ho _ _ _ _ ht o k
theorem HS.cell {w : World} {B : Nat} {A : Option Addr} {n c : Nat} {l : List StripeM} (h : HS w B (.slice A n c) l) : n = l.length ∧ n ≤ c ∧ c ≤ 9223372036854775807 ∧ (∀ i, i < n → ∃ b u, A = some ⟨b, 0, none⟩ ∧ w.cell? ⟨b, i * 3, none⟩ = some (.int .i64 (l[i]?.getD .zero).id) ∧ w.cell? ⟨b, i * 3 + 1, none⟩ = some (.int .i64 (l[i]?.getD .zero).epoch) ∧ w.cell? ⟨b, i * 3 + 2, none⟩ = some u ∧ HI w u (l[i]?.getD .zero).locs) := by
  obtain ⟨A', c', h1, h2, h3, h6⟩ := h
  simp only [Value.slice.injEq] at h1
  obtain ⟨rfl, rfl, rfl⟩ := h1
  refine ⟨rfl, h2, h3, fun i hi => ?_⟩
  obtain ⟨b, cur, fr, rfl, _, hb, hc⟩ := h6 (by omega)
  obtain ⟨u, c0, c1, c2, hu, _⟩ := hc i hi
  exact ⟨b, u, rfl, by rw [cell_of_blk hb, Nat.mul_comm, c0], by rw [cell_of_blk hb, Nat.mul_comm, c1], by rw [cell_of_blk hb, Nat.mul_comm, c2], hu⟩
theorem HS.clip {w : World} {B : Nat} {A : Option Addr} {m c : Nat} {l : List StripeM} (h : HS w B (.slice A m c) l) : HS w B (.slice A m m) l := by
  obtain ⟨A', c', h1, h2, h3, h6⟩ := h
  simp only [Value.slice.injEq] at h1
  obtain ⟨rfl, rfl, rfl⟩ := h1
  exact ⟨A, l.length, rfl, Nat.le_refl _, by omega, h6⟩
/-- An owned row of stripes. -/
def HSo (w : World) (B : Nat) (v : Value) (l : List StripeM) : Prop :=
  ∃ us : List Value, us.length = l.length ∧ w.ownsRow B 36 3 v l.length (cellsS l us) ∧ ∀ i, i < l.length → ∃ u, us[i]? = some u ∧ HI w u (l[i]?.getD .zero).locs ∧ FreshV B u
theorem HSo.nil (w : World) (B : Nat) : HSo w B (.slice none 0 0) [] := ⟨[], rfl, World.ownsRow_nil _ _ _ _, by simp⟩
theorem HSo.read {w : World} {B : Nat} {v : Value} {l : List StripeM} (h : HSo w B v l) : HS w B v l := by
  obtain ⟨us, hus, ho, hu⟩ := h
  obtain ⟨A, c, rfl, h1, h2⟩ := own_shape ho
  refine ⟨A, c, rfl, h1, h2, fun hp => ?_⟩
  obtain ⟨g, cur, rfl, _, hB, _, hg, _, hx, _⟩ := own_pos ho hp
  refine ⟨g, cur, (0, 0), rfl, hB, hg, fun i hi => ?_⟩
  obtain ⟨u, e, hh, hf⟩ := hu i hi
  obtain ⟨c0, c1, c2⟩ := cellsS_get l us hus i hi
  rw [← hx] at c0 c1 c2
  rw [List.getElem?_take, if_pos (by omega)] at c0 c1 c2
  exact ⟨u, by simpa using c0, by simpa using c1, by rw [e] at c2; simpa using c2, hh, hf⟩
/-- The row grows by one. -/
theorem HSo.grow {w w1 w2 : World} {B : Nat} {v v2 u : Value} {l : List StripeM} {us : List Value} {s : StripeM} {o : Obj} (hus : us.length = l.length) (ho : w.ownsRow B 36 3 v l.length (cellsS l us))
    (hu : ∀ i, i < l.length → ∃ u, us[i]? = some u ∧ HI w u (l[i]?.getD .zero).locs ∧ FreshV B u) (h1 : Below w.heap.size w w1) (h : HI w1 u s.locs) (hf : FreshV B u) (hB : B ≤ w1.heap.size)
    (ho2 : w2.ownsRow 0 36 3 v2 (l.length + 1) (cellsS l us ++ [.int .i64 s.id, .int .i64 s.epoch, u])) (hg : Grow (w1.alloc o) w2 v v2) : HSo w2 B v2 (l ++ [s]) := by
  have hg' := hg.from_alloc
  have hk : ∀ (b : Nat) (cur : Array Value) (fr : Nat × Nat), w1.heap[b]? = some (.cells cur 3 fr) → w2.heap[b]? = some (.cells cur 3 fr) := by
    intro b cur fr hb
    refine hg'.chg.blk hb fun e => ?_
    obtain ⟨cur', e'⟩ := own_ty (own_below ho h1) b e
    rw [hb] at e'; cases e'
  refine ⟨us ++ [u], by simp [hus], ?_, fun i hi => ?_⟩
  · rw [cellsS_snoc l us hus, List.length_append, List.length_singleton]
    refine own_base ho2 fun q e => ?_
    rcases hg'.at_ with f | f
    · exact (ho.lt q (f ▸ e)).1
    · exact Nat.le_trans hB (f q e)
  · simp at hi
    by_cases hlt : i < l.length
    · obtain ⟨x, e, hh, hfx⟩ := hu i hlt
      refine ⟨x, by rw [List.getElem?_append_left (by omega)]; exact e, ?_, hfx⟩
      rw [List.getElem?_append_left hlt]
      exact (hh.below h1).keep hk
    · obtain rfl : i = l.length := by omega
      refine ⟨u, by rw [← hus]; simp, ?_, hf⟩
      simpa using h.keep hk

theorem clone_ints (v : Value) (xs : List Int) (w : World) (h : HI w v xs) (hl : xs.length ≤ 1000) :
    Calls Tryz.prog 118 #[v] w fun e w' => ∃ v', e = .returned v' ∧ w'.ownsRow w.heap.size 3 1 v' xs.length (ints .i64 xs) ∧ Below w.heap.size w w' := by
  obtain ⟨A, c, rfl, h1, h2, h3⟩ := h
  cases A with
  | none =>
    have hn : xs.length = 0 := by
      rcases Nat.eq_zero_or_pos xs.length with h | h
      · exact h
      · obtain ⟨b, o, cur, fr, e, _⟩ := h3 h; cases e
    obtain rfl := List.eq_nil_of_length_eq_zero hn
    refine (Tryz.slices_Clone_int_nil _ _ w).mono ?_
    rintro e w' ⟨rfl, rfl⟩
    exact ⟨_, rfl, World.ownsRow_nil _ _ _ _, Below.refl _ _⟩
  | some a =>
    rcases Nat.eq_zero_or_pos xs.length with hn | hp
    · obtain rfl := List.eq_nil_of_length_eq_zero hn
      refine (Tryz.slices_Clone_int_zero a c w).mono ?_
      rintro e w' ⟨v', rfl, ho, _, hB⟩
      exact ⟨_, rfl, ho, hB⟩
    · obtain ⟨b, o, cur, fr, e, hb, hc⟩ := h3 hp
      cases e
      refine (Tryz.slices_Clone_int b o xs.length c xs w (Nat.le_refl _) (by omega) fun j hj => ?_).mono ?_
      · rw [cell_of_blk hb, hc j hj]; simp
      · rintro e w' ⟨v', rfl, ho, _, hB⟩
        rw [List.take_of_length_le (Nat.le_refl _)] at ho
        exact ⟨_, rfl, ho, hB⟩

set_option maxRecDepth 100000 in
set_option maxHeartbeats 1000000 in
theorem recClone_any (id ep : Int) (v : Value) (xs : List Int) (w : World) (h : HI w v xs) (hl : xs.length ≤ 1000) :
    Calls Tryz.prog 81 #[.agg #[.int .i64 id, .int .i64 ep, v]] w fun e w' => ∃ v', e = .returned (.agg #[.int .i64 id, .int .i64 ep, v']) ∧ HI w' v' xs ∧ FreshV w.heap.size v' ∧ Below w.heap.size w w' := by
  have CL := fun W hB => clone_ints v xs W (h.below hB) hl
  obtain ⟨A, n, c, rfl⟩ := h.shape
  replace CL := Lib.hid CL
  have HN : Hid (xs.length = n) := Lib.hid (by obtain ⟨A', c', e, _⟩ := h; cases e; rfl)
  clear h
  go_enter Tryz.func81, Tryz.ntmps81
  go_wp2_with fail
  obtain ⟨W1, hW1⟩ : ∃ W, (w.alloc (.cells #[.int .i64 id, .int .i64 ep, .slice A n c] 36)).alloc (.cells #[.int .i64 0, .int .i64 0, .slice none 0 0] 36) = W := ⟨_, rfl⟩
  have hb1 : W1.heap[w.heap.size]? = some (.cells #[.int .i64 id, .int .i64 ep, .slice A n c] 36 (0, 0)) := by rw [← hW1]; exact blk_alloc (heap_alloc_new w _) _
  have hb2 : W1.heap[w.heap.size + 1]? = some (.cells #[.int .i64 0, .int .i64 0, .slice none 0 0] 36 (0, 0)) := by rw [← hW1]; exact heap_alloc2_new w _ _
  have hB1 : Below w.heap.size w W1 := by rw [← hW1]; exact ((Below.refl _ w).alloc (Nat.le_refl _) _).alloc (by simp) _
  rw [hW1]
  clear hW1
  refine (CL.out W1 hB1).mono ?_
  rintro e W2 ⟨v2, rfl, ho2, hB2⟩
  have hc1 := below_blk hB2 hb1
  have hc2 := below_blk hB2 hb2
  have hBw := hB1.trans (hB2.mono hB1.size)
  obtain ⟨A2, c2, rfl, h21, h22⟩ := own_shape ho2
  have hHI := (HI.of_own ho2).clip xs.length (Nat.le_refl _)
  rw [List.take_length] at hHI
  have hFR : FreshV w.heap.size (.slice A2 xs.length xs.length) := by
    intro x hx
    refine Nat.le_trans hB1.size (FreshV.of_own ho2 x ?_)
    cases A2 with
    | none => simp [blkOf] at hx
    | some a => simpa [blkOf] using hx
  rw [HN.out] at hHI hFR h21 ⊢
  obtain ⟨q, hq⟩ : ∃ q, w.heap.size = q := ⟨_, rfl⟩
  rw [hq] at hc1 hc2 ⊢
  have HQ := Lib.hid hq
  have m0 : W2.cell? ⟨q, 0, none⟩ = some (.int .i64 id) := by rw [cell_of_blk hc1]; rfl
  have m1 : W2.cell? ⟨q, 1, none⟩ = some (.int .i64 ep) := by rw [cell_of_blk hc1]; rfl
  have m2 : W2.cell? ⟨q, 2, none⟩ = some (.slice A n c) := by rw [cell_of_blk hc1]; rfl
  have f2 := frozen_of_blk hc1 2
  have n0 : W2.cell? ⟨q + 1, 0, none⟩ = some (.int .i64 0) := by rw [cell_of_blk hc2]; rfl
  have n1 : W2.cell? ⟨q + 1, 1, none⟩ = some (.int .i64 0) := by rw [cell_of_blk hc2]; rfl
  have n2 : W2.cell? ⟨q + 1, 2, none⟩ = some (.slice none 0 0) := by rw [cell_of_blk hc2]; rfl
  have g0 := frozen_of_blk hc2 0
  have g1 := frozen_of_blk hc2 1
  have g2 := frozen_of_blk hc2 2
  have HC1 := Lib.hid hc1
  have HC2 := Lib.hid hc2
  replace hHI := Lib.hid hHI
  replace hFR := Lib.hid hFR
  clear hc1 hc2 hq hb1 hb2 ho2
  go_wp2_with (go_at_call 91; refine (clip_int _ n _ _ h21).mono ?_; rintro e w' ⟨rfl, rfl⟩)
  have hfin := blk_setCell (blk_setCell (blk_setCell (blk_setCell_ne HC2.out (a := ⟨q, 2, none⟩) (Nat.succ_ne_self q) (.slice A2 n n)) 0 (.int .i64 id)) 1 (.int .i64 ep)) 2 (.slice A2 n n)
  have hch : Chg (fun k => k = q ∨ k = q + 1) W2 ((((W2.setCell ⟨q, 2, none⟩ (.slice A2 n n)).setCell ⟨q + 1, 0, none⟩ (.int .i64 id)).setCell ⟨q + 1, 1, none⟩ (.int .i64 ep)).setCell ⟨q + 1, 2, none⟩ (.slice A2 n n)) :=
    (((Chg.setCell (a := ⟨q, 2, none⟩) (.inl rfl) _).then_setCell (a := ⟨q + 1, 0, none⟩) (.inl (.inr rfl)) _).then_setCell (a := ⟨q + 1, 1, none⟩) (.inl (.inr rfl)) _).then_setCell (a := ⟨q + 1, 2, none⟩) (.inl (.inr rfl)) _
  refine bodyPost_ret (results_cell_row rfl _ _ (q + 1) 36 _ (0, 0) _ rfl hfin Tryz.underlying36 rfl (by kernel_rfl)) rfl ?_
  refine ⟨_, rfl, hHI.out.chg hch ?_, hFR.out, hBw.trans (hch.to_below hBw.size fun k hk => by rw [HQ.out]; omega)⟩
  rintro b cur fr (rfl | rfl) e
  · rw [HC1.out] at e; cases e
  · rw [HC2.out] at e; cases e
theorem Tryz.ESt : Elem Tryz.prog 30 36 3 40 := Elem.of Tryz.underlying30 (z := .agg #[.int .i64 0, .int .i64 0, .slice none 0 0]) (by kernel_rfl) rfl (by omega)

set_option maxRecDepth 100000 in
set_option maxHeartbeats 1000000 in
theorem recOwn_any (key : ByteArray) (id sz : Int) (v : Value) (l : List StripeM) (B0 : Nat) (w : World) (h : HS w B0 v l) (hl : l.length ≤ 100) (hl2 : ∀ s ∈ l, s.locs.length ≤ 1000) :
    Calls Tryz.prog 51 #[.agg #[.string key, .int .i64 id, .int .i64 sz, v]] w fun e w' => ∃ v', e = .returned (.agg #[.string key, .int .i64 id, .int .i64 sz, v']) ∧ HS w' w.heap.size v' l ∧ Below w.heap.size w w' := by
  obtain ⟨A, n, c, rfl⟩ := h.shape
  obtain ⟨hn, hnc, _, _⟩ := h.cell
  have hn100 : n ≤ 100 := by omega
  have HH := Lib.hid h
  have HN := Lib.hid hn
  have HL2 := Lib.hid hl2
  clear h hn hl hl2
  go_enter Tryz.func51, Tryz.ntmps51
  go_wp2_with fail
  obtain ⟨W1, hW1⟩ : ∃ W, (w.alloc (.cells #[.string key, .int .i64 id, .int .i64 sz, .slice A n c] 32)).alloc (.cells #[.string ⟨#[]⟩, .int .i64 0, .int .i64 0, .slice none 0 0] 32) = W := ⟨_, rfl⟩
  have hb1 : W1.heap[w.heap.size]? = some (.cells #[.string key, .int .i64 id, .int .i64 sz, .slice A n c] 32 (0, 0)) := by rw [← hW1]; exact blk_alloc (heap_alloc_new w _) _
  have hb2 : W1.heap[w.heap.size + 1]? = some (.cells #[.string ⟨#[]⟩, .int .i64 0, .int .i64 0, .slice none 0 0] 32 (0, 0)) := by rw [← hW1]; exact heap_alloc2_new w _ _
  have hB1 : Below w.heap.size w W1 := by rw [← hW1]; exact ((Below.refl _ w).alloc (Nat.le_refl _) _).alloc (by simp) _
  have hz := hB1.size
  rw [hW1]
  have HH1 := Lib.hid (HH.out.below hB1)
  clear hW1
  go_loopw [3, 9] (fun u i wr => ∃ k : Nat, k ≤ n ∧ i = .int .i64 k ∧ Below W1.heap.size W1 wr ∧ HSo wr W1.heap.size u (l.take k)) (fun _ i _ => n - (intOf i).toNat)
  case atStart => exact ⟨0, by omega, rfl, Below.refl _ _, HSo.nil _ _⟩
  case round =>
    obtain ⟨k, hk, rfl, hB, hso⟩ := hrel
    by_cases hlt : k < n
    · obtain ⟨b, u, rfl, c0, c1, c2, hu⟩ := (HH1.out.below hB).cell.2.2.2 k hlt
      have hkl : k < l.length := by rw [← HN.out]; exact hlt
      have hmem := HL2.out (l[k]?.getD .zero) (by rw [List.getElem?_eq_getElem hkl]; exact List.getElem_mem hkl)
      have htk : (l.take k).length = k := by rw [List.length_take]; omega
      have hts : l.take (k + 1) = l.take k ++ [l[k]?.getD .zero] := by rw [List.take_add_one]; simp [List.getElem?_eq_getElem hkl]
      obtain ⟨us, hus, ho, huu⟩ := hso
      rw [htk] at ho
      obtain ⟨Av, cv, rfl, _, _⟩ := own_shape ho
      obtain ⟨s, hs⟩ : ∃ s, l[k]?.getD .zero = s := ⟨_, rfl⟩
      rw [hs] at c0 c1 hu hmem hts
      obtain ⟨sid, sep, sl⟩ := s
      obtain ⟨Au, nu, cu, rfl⟩ := hu.shape
      have RC := fun W hB => recClone_any sid sep _ sl W (hu.below hB) hmem
      replace RC := Lib.hid RC
      replace hus := Lib.hid hus
      replace ho := Lib.hid ho
      replace huu := Lib.hid huu
      replace hts := Lib.hid hts
      replace htk := Lib.hid htk
      clear hs hu hkl hmem
      go_wp2_with fail
      obtain ⟨W3, hW3⟩ : ∃ W, wr.alloc (.cells #[.int .i64 sid, .int .i64 sep, .slice Au nu cu] 36) = W := ⟨_, rfl⟩
      have hB3 : Below wr.heap.size wr W3 := by rw [← hW3]; exact (Below.refl _ _).alloc (Nat.le_refl _) _
      rw [hW3]
      clear hW3
      refine (RC.out W3 hB3).mono ?_
      rintro e W4 ⟨v4, rfl, hI4, hF4, hB4⟩
      have hB34 := hB3.trans (hB4.mono hB3.size)
      obtain ⟨A4, n4, c4, rfl⟩ := hI4.shape
      have ho4 := own_zero (own_below ho.out hB34)
      replace hI4 := Lib.hid hI4
      replace hF4 := Lib.hid hF4
      go_wp2_with (at_builtin; refine app_arm Tryz.ESt _ rfl (.tmp 13) (.tmp 16) rfl (v := .slice Av k cv) rfl (ho4.alloc _) rfl (Src.alloc W4 3 [_, _, _] _ 1 rfl) (by simp [Value.oneCell']) (by omega) (by unfold maxLen; omega) ?_; intro v5 W5 ho5 hg5 _; obtain ⟨A5, k5, rfl, _⟩ := own_shape ho5)
      have hgr := hg5.from_alloc
      have hBw4 := hB.trans (hB34.mono hB.size)
      refine ⟨⟨k + 1, by omega, by go_num, hBw4.trans (hgr.chg.to_below hBw4.size fun q e => (ho.out.lt q e).1), ?_⟩, by simp [intOf]; omega⟩
      rw [hts.out]
      have ho' : wr.ownsRow W1.heap.size 36 3 (.slice Av k cv) (l.take k).length (cellsS (l.take k) us) := by rw [htk.out]; exact ho.out
      refine HSo.grow (s := ⟨sid, sep, sl⟩) hus.out ho' huu.out hB34 hI4.out (hF4.out.mono (Nat.le_trans hB.size hB3.size)) hBw4.size ?_ hg5
      rw [htk.out]
      exact ho5
    · obtain rfl : k = n := by omega
      rw [List.take_of_length_le (by rw [HN.out]; exact Nat.le_refl _)] at hso
      have hS := hso.read
      obtain ⟨us, hus, ho, huu⟩ := hso
      rw [← HN.out] at ho
      obtain ⟨Av, cv, rfl, hcv, _⟩ := own_shape ho
      have hS2 := Lib.hid hS.clip
      have hc1 := below_blk hB hb1
      have hc2 := below_blk hB hb2
      have hBw := hB1.trans (hB.mono hB1.size)
      obtain ⟨q, hq⟩ : ∃ q, w.heap.size = q := ⟨_, rfl⟩
      rw [hq] at hc1 hc2 hz ⊢
      have HQ := Lib.hid hq
      have m0 : wr.cell? ⟨q, 0, none⟩ = some (.string key) := by rw [cell_of_blk hc1]; rfl
      have m1 : wr.cell? ⟨q, 1, none⟩ = some (.int .i64 id) := by rw [cell_of_blk hc1]; rfl
      have m2 : wr.cell? ⟨q, 2, none⟩ = some (.int .i64 sz) := by rw [cell_of_blk hc1]; rfl
      have m3 : wr.cell? ⟨q, 3, none⟩ = some (.slice A k c) := by rw [cell_of_blk hc1]; rfl
      have f3 := frozen_of_blk hc1 3
      have n0 : wr.cell? ⟨q + 1, 0, none⟩ = some (.string ⟨#[]⟩) := by rw [cell_of_blk hc2]; rfl
      have n1 : wr.cell? ⟨q + 1, 1, none⟩ = some (.int .i64 0) := by rw [cell_of_blk hc2]; rfl
      have n2 : wr.cell? ⟨q + 1, 2, none⟩ = some (.int .i64 0) := by rw [cell_of_blk hc2]; rfl
      have n3 : wr.cell? ⟨q + 1, 3, none⟩ = some (.slice none 0 0) := by rw [cell_of_blk hc2]; rfl
      have g0 := frozen_of_blk hc2 0
      have g1 := frozen_of_blk hc2 1
      have g2 := frozen_of_blk hc2 2
      have g3 := frozen_of_blk hc2 3
      have HC1 := Lib.hid hc1
      have HC2 := Lib.hid hc2
      clear hc1 hc2 hq hb1 hb2 ho hS huu hus
      go_wp2_with (go_at_call 75; refine (clip_stripe _ k _ _ hcv).mono ?_; rintro e w' ⟨rfl, rfl⟩)
      have hfin := blk_setCell (blk_setCell (blk_setCell (blk_setCell (blk_setCell_ne HC2.out (a := ⟨q, 3, none⟩) (Nat.succ_ne_self q) (.slice Av k k)) 0 (.string key)) 1 (.int .i64 id)) 2 (.int .i64 sz)) 3 (.slice Av k k)
      have hch : Chg (fun k => k = q ∨ k = q + 1) wr (((((wr.setCell ⟨q, 3, none⟩ (.slice Av k k)).setCell ⟨q + 1, 0, none⟩ (.string key)).setCell ⟨q + 1, 1, none⟩ (.int .i64 id)).setCell ⟨q + 1, 2, none⟩ (.int .i64 sz)).setCell ⟨q + 1, 3, none⟩ (.slice Av k k)) :=
        ((((Chg.setCell (a := ⟨q, 3, none⟩) (.inl rfl) _).then_setCell (a := ⟨q + 1, 0, none⟩) (.inl (.inr rfl)) _).then_setCell (a := ⟨q + 1, 1, none⟩) (.inl (.inr rfl)) _).then_setCell (a := ⟨q + 1, 2, none⟩) (.inl (.inr rfl)) _).then_setCell (a := ⟨q + 1, 3, none⟩) (.inl (.inr rfl)) _
      refine bodyPost_ret (results_cell_row rfl _ _ (q + 1) 32 _ (0, 0) _ rfl hfin Tryz.underlying32 rfl (by kernel_rfl)) rfl ?_
      refine ⟨_, rfl, (hS2.out.chg hch ?_).mono (by rw [HQ.out]; exact hz), hBw.trans (hch.to_below hBw.size fun k hk => by rw [HQ.out]; omega)⟩
      rintro b cur t fr ht (rfl | rfl) e
      · rw [HC1.out] at e; cases e; rcases ht with h | h <;> cases h
      · rw [HC2.out] at e; cases e; rcases ht with h | h <;> cases h
end Go.Proofs.YtblddkjdglliaaaGreatDoor
