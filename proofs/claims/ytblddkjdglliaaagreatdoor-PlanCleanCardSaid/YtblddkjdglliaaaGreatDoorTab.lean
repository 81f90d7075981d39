/- Tables of bytes in memory (HM); contracts: mat.fit (where it fits), mat.add. -/
import Derived.Test.YtblddkjdglliaaaGreatDoorMat
namespace Go.Proofs.YtblddkjdglliaaaGreatDoor
open Go.RowKit

/-- The slice v reads as these rows. -/
def HM (w : World) (v : Value) (rows : List (List Int)) : Prop :=
  ∃ A c, v = .slice A rows.length c ∧ rows.length ≤ c ∧ c ≤ 9223372036854775807 ∧ rows.length ≤ 60000 ∧
    (0 < rows.length → ∃ b o cur fr, A = some ⟨b, o, none⟩ ∧ w.heap[b]? = some (.cells cur 22 fr) ∧ ∀ i, i < rows.length → ∃ u, cur[o + i]? = some u ∧ HB w u (rows[i]?.getD []))
theorem HM.shape {w : World} {v : Value} {rows : List (List Int)} (h : HM w v rows) : ∃ A n c, v = .slice A n c := by obtain ⟨A, c, h, _⟩ := h; exact ⟨_, _, _, h⟩
theorem HM.keep {w w' : World} {v : Value} {rows : List (List Int)} (h : HM w v rows) (hk : ∀ (b : Nat) (cur : Array Value) (t : TypeId) (fr : Nat × Nat), t = 5 ∨ t = 22 → w.heap[b]? = some (.cells cur t fr) → w'.heap[b]? = some (.cells cur t fr)) : HM w' v rows := by
  obtain ⟨A, c, h1, h2, h3, h4, h5⟩ := h
  refine ⟨A, c, h1, h2, h3, h4, fun hp => ?_⟩
  obtain ⟨b, o, cur, fr, e, hb, hc⟩ := h5 hp
  refine ⟨b, o, cur, fr, e, hk _ _ _ _ (.inr rfl) hb, fun i hi => ?_⟩
  obtain ⟨u, hu, hh⟩ := hc i hi
  exact ⟨u, hu, hh.keep fun _ _ _ k => hk _ _ _ _ (.inl rfl) k⟩
theorem HM.below {w w' : World} {v : Value} {rows : List (List Int)} (h : HM w v rows) (hb : Below w.heap.size w w') : HM w' v rows := h.keep fun _ _ _ _ _ k => below_blk hb k
theorem HM.cell {w : World} {A : Option Addr} {n c : Nat} {rows : List (List Int)} (h : HM w (.slice A n c) rows) : n = rows.length ∧ n ≤ c ∧ c ≤ 9223372036854775807 ∧ n ≤ 60000 ∧ (∀ i, i < n → ∃ b o u, A = some ⟨b, o, none⟩ ∧ w.cell? ⟨b, o + i, none⟩ = some u ∧ HB w u (rows[i]?.getD [])) := by
  obtain ⟨A', c', h1, h2, h3, h4, h6⟩ := h
  simp only [Value.slice.injEq] at h1
  obtain ⟨rfl, rfl, rfl⟩ := h1
  refine ⟨rfl, h2, h3, h4, fun i hi => ?_⟩
  obtain ⟨b, o, cur, fr, rfl, hb, hc⟩ := h6 (by omega)
  obtain ⟨u, hu, hh⟩ := hc i hi
  exact ⟨b, o, u, rfl, by rw [cell_of_blk hb, hu], hh⟩
/-- An owned row of slices, each of which reads as bytes. -/
def HR (w : World) (B : Nat) (v : Value) (rows : List (List Int)) : Prop :=
  rows.length ≤ 60000 ∧ ∃ us : List Value, w.ownsRow B 22 1 v rows.length us ∧ ∀ i, i < rows.length → ∃ u, us[i]? = some u ∧ HB w u (rows[i]?.getD [])
theorem HR.nil (w : World) (B : Nat) : HR w B (.slice none 0 0) [] := ⟨by simp, [], World.ownsRow_nil _ _ _ _, by simp⟩
theorem HR.table {w : World} {B : Nat} {v : Value} {rows : List (List Int)} (h : HR w B v rows) : HM w v rows := by
  obtain ⟨hl, us, ho, hu⟩ := h
  obtain ⟨A, c, rfl, h1, h2⟩ := own_shape ho
  refine ⟨A, c, rfl, h1, h2, hl, fun hp => ?_⟩
  obtain ⟨g, cur, rfl, _, _, _, hg, _, hx, _⟩ := own_pos ho hp
  refine ⟨g, 0, cur, (0, 0), rfl, hg, fun i hi => ?_⟩
  obtain ⟨u, e, hh⟩ := hu i hi
  refine ⟨u, ?_, hh⟩
  rw [← hx, List.getElem?_take, if_pos (by omega)] at e
  simpa using e
theorem HR.below {w w' : World} {B : Nat} {v : Value} {rows : List (List Int)} (h : HR w B v rows) (hb : Below w.heap.size w w') : HR w' B v rows := by
  obtain ⟨hl, us, ho, hu⟩ := h
  refine ⟨hl, us, own_below ho hb, fun i hi => ?_⟩
  obtain ⟨u, e, hh⟩ := hu i hi
  exact ⟨u, e, hh.below hb⟩
theorem HR.snoc {w w' : World} {B : Nat} {v' u : Value} {rows : List (List Int)} {us : List Value} {bs : List Int} (hl : rows.length < 60000)
    (hu : ∀ i, i < rows.length → ∃ u, us[i]? = some u ∧ HB w u (rows[i]?.getD [])) (hus : us.length = rows.length) (h : HB w u bs)
    (ho : w'.ownsRow B 22 1 v' (rows.length + 1) (us ++ [u])) (hk : ∀ (b : Nat) (cur : Array Value) (fr : Nat × Nat), w.heap[b]? = some (.cells cur 5 fr) → w'.heap[b]? = some (.cells cur 5 fr)) : HR w' B v' (rows ++ [bs]) := by
  refine ⟨by simp; omega, us ++ [u], by simpa using ho, fun i hi => ?_⟩
  simp at hi
  by_cases hlt : i < rows.length
  · obtain ⟨x, e, hh⟩ := hu i hlt
    refine ⟨x, by rw [List.getElem?_append_left (by omega)]; exact e, ?_⟩
    rw [List.getElem?_append_left hlt]
    exact hh.keep hk
  · obtain rfl : i = rows.length := by omega
    refine ⟨u, by rw [← hus]; simp, ?_⟩
    simpa using h.keep hk
/-- The parts of bytes are rows. -/
def chop (m cnt : Nat) (bs : List Int) : List (List Int) := (List.range cnt).map fun j => (bs.drop (j * m)).take m
theorem HR.parts {w : World} {B b o m cnt c : Nat} {v : Value} {bs : List Int} (hm : 1 ≤ m) (hb : HB w (.slice (some ⟨b, o, none⟩) (cnt * m) c) bs) (ho : w.ownsRow B 22 1 v cnt ((partsOf b o m cnt).map SV.val)) : HR w B v (chop m cnt bs) := by
  have hlen := hb.cell.1
  have hle := hb.len
  have hcm : cnt ≤ cnt * m := Nat.le_mul_of_pos_right cnt hm
  have hl : (chop m cnt bs).length = cnt := by simp [chop]
  refine ⟨by rw [hl]; omega, _, by rw [hl]; exact ho, fun i hi => ?_⟩
  rw [hl] at hi
  refine ⟨.slice (some ⟨b, o + i * m, none⟩) m m, by simp [partsOf, SV.val, hi], ?_⟩
  have h1 : (i + 1) * m ≤ cnt * m := Nat.mul_le_mul_right m hi
  rw [Nat.succ_mul] at h1
  have := hb.sub (i * m) (i * m + m) m (by omega) (by omega) (by omega) (by omega) (A' := some ⟨b, o + i * m, none⟩) (fun _ b' o' e => by cases e; rfl)
  rw [Nat.add_sub_cancel_left] at this
  simpa [chop, hi] using this

/-! ### fit -/
theorem Tryz.funFit : ∀ A W, Sem.run Tryz.prog (callFunc 193 A) W = .ok (Next.enter 193 A) W := by intro A W; kernel_rfl
set_option maxRecDepth 100000 in
set_option maxHeartbeats 400000 in
theorem fit_any (v : Value) (rows : List (List Int)) (c : Nat) (w : World) (h : HM w v rows) (h0 : 0 < rows.length) (hr : ∀ i, i < rows.length → (rows[i]?.getD []).length = c) :
    Calls Tryz.prog 163 #[v] w fun e w' => e = .returned (.bool true) ∧ Below w.heap.size w w' := by
  obtain ⟨A, n, cp, rfl⟩ := h.shape
  obtain ⟨hn, hc1, hc2, hc3, hc⟩ := h.cell
  rw [← hn] at h0 hr
  have hcap : c ≤ 60000 := by
    obtain ⟨b, o, u, _, _, hh⟩ := hc 0 h0
    have := hh.len
    rw [hr 0 h0] at this
    exact this
  have hrow : ∀ i, i < n → ∃ b o A' c', A = some ⟨b, o, none⟩ ∧ w.cell? ⟨b, o + i, none⟩ = some (.slice A' c c') := by
    intro i hi
    obtain ⟨b, o, u, rfl, hu, A', c', rfl, _⟩ := hc i hi
    exact ⟨b, o, A', c', rfl, by rw [hr i hi] at hu; exact hu⟩
  clear hc h hn hr
  obtain ⟨W, hW⟩ : ∃ W, w.alloc (.cells #[.slice A n cp] 63) = W := ⟨_, rfl⟩
  have hBW : Below w.heap.size w W := by rw [← hW]; exact (Below.refl _ w).alloc (Nat.le_refl _) _
  have b1 : W.heap[w.heap.size]? = some (.cells #[.slice A n cp] 63 (0, 0)) := by rw [← hW]; exact heap_alloc_new w _
  have c1 : W.cell? ⟨w.heap.size, 0, none⟩ = some (.slice A n cp) := by rw [cell_of_blk b1]; rfl
  have hrow' : ∀ i, i < n → ∃ b o A' c', A = some ⟨b, o, none⟩ ∧ W.cell? ⟨b, o + i, none⟩ = some (.slice A' c c') := by
    intro i hi
    obtain ⟨b, o, A', c', rfl, hu⟩ := hrow i hi
    have : b < w.heap.size := by
      unfold World.cell? at hu
      rcases hg : w.heap[b]? with _ | o
      · simp [hg] at hu
      · exact blk_lt hg
    exact ⟨b, o, A', c', rfl, (hBW.cell (p := ⟨b, o + i, none⟩) this).trans hu⟩
  have CL : ∀ A' c', Calls Tryz.prog 193 #[.slice A' c c', .pointer (some ⟨w.heap.size, 0, none⟩)] W fun e w' => e = .returned (.bool false) ∧ W = w' := by
    intro A' c'
    obtain ⟨b, o, A0, c0, rfl, hu⟩ := hrow' 0 h0
    rw [Nat.add_zero] at hu
    generalize w.heap.size = q at *
    clear hrow hrow' hW hBW
    go_enter Tryz.func193, Tryz.ntmps193
    go_wp2
    go_ret
    exact ⟨rfl, rfl⟩
  have IX : Calls Tryz.prog 205 #[.slice A n cp, .func (.func 193) #[] #[.pointer (some ⟨w.heap.size, 0, none⟩)]] W fun e w' => e = .returned (.int .i64 (-1)) ∧ W = w' := by
    generalize w.heap.size = q at *
    clear hrow hW hBW
    have CL := Lib.hid CL
    go_enter Tryz.func205, Tryz.ntmps205
    go_wp2
    go_loop [8] (fun i => ∃ k : Nat, k ≤ n ∧ i = .int .i64 k) (fun i => n - (intOf i).toNat)
    case atStart => exact ⟨0, by omega, rfl⟩
    case round =>
      obtain ⟨k, hk, rfl⟩ := hrel
      by_cases hlt : k < n
      · obtain ⟨b, o, A', c', rfl, hu⟩ := hrow' k hlt
        clear hrow'
        go_wp2_with (first | (go_at_call 193; refine (CL.out A' c').mono ?_; rintro e w' ⟨rfl, rfl⟩) | fail)
        exact ⟨⟨k + 1, by omega, by go_num⟩, by simp [intOf]; omega⟩
      · go_wp2
        go_ret
        exact ⟨rfl, rfl⟩
  have CF : Calls Tryz.prog 175 #[.slice A n cp, .func (.func 193) #[] #[.pointer (some ⟨w.heap.size, 0, none⟩)]] W fun e w' => e = .returned (.bool false) ∧ W = w' := by
    generalize w.heap.size = q at *
    clear hrow hrow' hW hBW
    go_enter Tryz.func175, Tryz.ntmps175
    go_wp2_with (go_at_call 205; refine IX.mono ?_; rintro e w' ⟨rfl, rfl⟩)
    go_ret
    exact ⟨rfl, rfl⟩
  clear hrow hrow' IX CL
  rw [← hW] at CF hBW
  have CF := Lib.hid CF
  have HB0 := Lib.hid hBW
  clear hW b1 c1 hBW
  go_enter Tryz.func163, Tryz.ntmps163
  go_wp2_with (go_at_call 175; refine CF.out.mono ?_; rintro e w' ⟨rfl, rfl⟩)
  go_ret
  exact ⟨rfl, HB0.out⟩
end Go.Proofs.YtblddkjdglliaaaGreatDoor
