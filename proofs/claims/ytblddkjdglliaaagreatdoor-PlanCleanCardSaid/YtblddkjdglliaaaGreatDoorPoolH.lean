/- Contracts of package pool: Held, Free. Conditions: a pool that lies as IsPool says. -/
import Derived.Test.YtblddkjdglliaaaGreatDoorPoolX
namespace Go.Proofs.YtblddkjdglliaaaGreatDoor
open Go.RowKit

def pairsV (l : List (Int × Int)) : List Value := l.flatMap fun p => [.int .i64 p.1, .int .i64 p.2]
theorem pairsV_length (l : List (Int × Int)) : (pairsV l).length = l.length * 2 := by
  unfold pairsV
  induction l with
  | nil => rfl
  | cons a l ih => rw [List.flatMap_cons, List.length_append, ih]; simp; omega
theorem pairsV_snoc (l : List (Int × Int)) (p : Int × Int) : pairsV (l ++ [p]) = pairsV l ++ [.int .i64 p.1, .int .i64 p.2] := by simp [pairsV, List.flatMap_append]
theorem pairsV_get (l : List (Int × Int)) (i : Nat) (h : i < l.length) : (pairsV l)[2 * i]? = some (.int .i64 (l[i]?.getD (0, 0)).1) ∧ (pairsV l)[2 * i + 1]? = some (.int .i64 (l[i]?.getD (0, 0)).2) := by
  induction l generalizing i with
  | nil => simp at h
  | cons a l ih =>
    have e : pairsV (a :: l) = .int .i64 a.1 :: .int .i64 a.2 :: pairsV l := by simp [pairsV]
    rw [e]
    cases i with
    | zero => simp
    | succ i =>
      have := ih i (by simpa using h)
      rw [show 2 * (i + 1) = 2 * i + 1 + 1 from by omega]
      simpa using this

/-- The box of Held's list: its block, what it holds. -/
structure HeldIn (w0 W : World) (g : Nat) (l : List (Int × Int)) : Prop where
  below : Below w0.heap.size w0 W
  ge : w0.heap.size ≤ g
  row : ∃ v, W.heap[g]? = some (.cells #[v] 55 (0, 0)) ∧ W.ownsRow 0 80 2 v l.length (pairsV l) ∧ ∀ k, v.ownBlock = some k → w0.heap.size ≤ k

set_option maxRecDepth 100000 in
set_option maxHeartbeats 400000 in
theorem held_cl (s k : Int) (ok : Bool) (v : Value) (g : Nat) (l : List (Int × Int)) (w0 W : World) (h : HeldIn w0 W g l) (hl : l.length < 1000) :
    Calls Tryz.prog 62 #[.int .i64 s, .int .i64 k, v, .bool ok, .pointer (some ⟨g, 0, none⟩)] W fun e w' => e = .returned (.bool false) ∧ HeldIn w0 w' g (if ok then l ++ [(s, k)] else l) := by
  cases ok
  · simp only [Bool.false_eq_true, if_false]
    have H := Lib.hid h
    clear h
    go_enter Tryz.func62, Tryz.ntmps62
    go_wp2
    go_ret
    exact ⟨rfl, H.out⟩
  · simp only [if_true]
    obtain ⟨u, hu, ho, hb⟩ := h.row
    have c0 : W.cell? ⟨g, 0, none⟩ = some u := by rw [cell_of_blk hu]; rfl
    have f0 := frozen_of_blk hu 0
    have hglt := blk_lt hu
    have H := Lib.hid h
    have HU := Lib.hid hu
    have HB' := Lib.hid hb
    clear h hu hb
    go_enter Tryz.func62, Tryz.ntmps62
    go_wp2_with (at_builtin; refine app_arm (v := u) Tryz.EH _ rfl (.tmp 11) (.tmp 15) rfl rfl (ho.alloc _) rfl (Src.alloc W 2 [_, _] _ 1 rfl) (by simp [Value.oneCell']) (by omega) (by unfold maxLen; omega) ?_; intro v2 w2 ho2 hg2 _; obtain ⟨A2, k2, rfl, _⟩ := own_shape ho2; have hbk := hg2.chg.blk (blk_alloc HU.out (.cells #[.int .i64 s, .int .i64 k] 80)) (fun e => by obtain ⟨cur, e'⟩ := own_ty ho g e; rw [HU.out] at e'; cases e'); have c3 : w2.cell? ⟨g, 0, none⟩ = some u := (by rw [cell_of_blk hbk]; rfl); have f3 := frozen_of_blk hbk 0; have HG := Lib.hid hg2; have HO := Lib.hid ho2; clear hg2 ho2)
    go_ret
    have hbk := HG.out.chg.blk (blk_alloc HU.out (.cells #[.int .i64 s, .int .i64 k] 80)) (fun e => by obtain ⟨cur, e'⟩ := own_ty ho g e; rw [HU.out] at e'; cases e')
    have hB1 : Below w0.heap.size w0 (W.alloc (.cells #[.int .i64 s, .int .i64 k] 80)) := H.out.below.alloc H.out.below.size _
    have hB2 : Below w0.heap.size w0 w2 := hB1.trans (HG.out.chg.to_below hB1.size HB'.out)
    refine ⟨rfl, hB2.setCell (p := ⟨g, 0, none⟩) H.out.ge _, H.out.ge, _, blk_setCell hbk 0 _, ?_, ?_⟩
    · rw [pairsV_snoc, List.length_append]
      refine own_chg HO.out ((Chg.refl (fun k => k = g) w2).then_setCell (a := ⟨g, 0, none⟩) (.inl rfl) _) fun k hk e => ?_
      subst e
      obtain ⟨cur, e'⟩ := own_ty HO.out k hk
      rw [hbk] at e'; cases e'
    · intro k' hk'
      rcases HG.out.at_ with e | e
      · exact HB'.out k' (e ▸ hk')
      · exact Nat.le_trans hB1.size (e k' hk')

/-- All shards of a drive, of its first k slots. -/
def PoolM.heldTo (m : PoolM) (n : Int) (k : Nat) : List (Int × Int) := (List.range k).filterMap fun i => if openOk (m.slot n i) then some (openS (m.slot n i), openP (m.slot n i)) else none
def PoolM.held (m : PoolM) (n : Int) : List (Int × Int) := m.heldTo n (m.capN n)
theorem heldTo_succ (m : PoolM) (n : Int) (k : Nat) : m.heldTo n (k + 1) = if openOk (m.slot n k) then m.heldTo n k ++ [(openS (m.slot n k), openP (m.slot n k))] else m.heldTo n k := by
  unfold PoolM.heldTo
  rw [List.range_succ, List.filterMap_append]
  by_cases h : openOk (m.slot n k) = true
  · rw [if_pos h]; simp [h]
  · rw [if_neg h]; simp [h]
theorem heldTo_length (m : PoolM) (n : Int) (k : Nat) : (m.heldTo n k).length ≤ k := by
  unfold PoolM.heldTo
  exact Nat.le_trans (List.length_filterMap_le _ _) (by simp)

set_option maxRecDepth 100000 in
set_option maxHeartbeats 400000 in
theorem pheld_any (p : Nat) (L : Lay) (m : PoolM) (n : Int) (w : World) (h : IsPool w p L m) :
    Calls Tryz.prog 29 #[pptr p, .int .i64 n] w fun e w' => ∃ v, e = .returned v ∧ w'.ownsRow 0 80 2 v (m.held n).length (pairsV (m.held n)) ∧ (∀ k, v.ownBlock = some k → w.heap.size ≤ k) ∧ Below w.heap.size w w' := by
  have hcl := cap_le h n
  obtain ⟨W, hW⟩ : ∃ W, W = w.alloc (.cells #[.slice none 0 0] 55) := ⟨_, rfl⟩
  have hBW : Below w.heap.size w W := by rw [hW]; exact (Below.refl _ _).alloc (Nat.le_refl _) _
  have h0 : HeldIn w W w.heap.size [] := ⟨hBW, Nat.le_refl _, _, by rw [hW]; exact heap_alloc_new w _, World.ownsRow_nil _ _ _ _, by intro k hk; simp [Value.ownBlock] at hk⟩
  have hP : ∀ W', Below w.heap.size w W' → IsPool W' p L m := fun W' hB => h.below hB
  have EA := each_any p L m n 62 #[.pointer (some ⟨w.heap.size, 0, none⟩)] W (hP W hBW) Tryz.funHeld (fun _ => false) (fun k W' => HeldIn w W' w.heap.size (m.heldTo n k))
    h0 ?_ (fun k W1 h1 => hP W1 h1.below) ?_
  · rw [hW] at EA
    rw [firstI_none (fun _ _ => rfl)] at EA
    unfold pptr at *
    unfold PoolM.held
    generalize m.capN n = N at *
    clear h0 hBW hW hP h
    go_enter Tryz.func29, Tryz.ntmps29
    go_wp2_with fail
    refine EA.mono ?_
    rintro e w1 ⟨rfl, k, hk, hJ, hk2⟩
    have hk3 := hk2 trivial
    subst hk3
    obtain ⟨u, hu, ho, hb⟩ := hJ.row
    have c0 : w1.cell? ⟨w.heap.size, 0, none⟩ = some u := by rw [cell_of_blk hu]; rfl
    have HJ := Lib.hid hJ
    have HO := Lib.hid ho
    have HB' := Lib.hid hb
    obtain ⟨A, c, rfl, _⟩ := own_shape ho
    clear hJ hu ho hb
    go_wp2
    go_ret
    exact ⟨_, rfl, HO.out, HB'.out, HJ.out.below⟩
  · intro k W1 W2 h1 h2
    obtain ⟨u, hu, ho, hb⟩ := h1.row
    exact ⟨h1.below.trans (h2.mono h1.below.size), h1.ge, u, below_blk h2 hu, own_below ho h2, hb⟩
  · intro k W1 v hk hJ _
    refine (held_cl (openS (m.slot n k)) (openP (m.slot n k)) (openOk (m.slot n k)) v _ _ w W1 hJ (by have := heldTo_length m n k; omega)).mono ?_
    rintro e w' ⟨rfl, h2⟩
    rw [← heldTo_succ] at h2
    exact ⟨rfl, h2⟩

def PoolM.freeN (m : PoolM) (n : Int) : Int := (m.capN n : Int) - ((m.held n).length : Int)
set_option maxHeartbeats 400000 in
theorem pfree_any (p : Nat) (L : Lay) (m : PoolM) (n : Int) (w : World) (h : IsPool w p L m) :
    Calls Tryz.prog 21 #[pptr p, .int .i64 n] w fun e w' => e = .returned (.int .i64 (m.freeN n)) ∧ Below w.heap.size w w' := by
  have DR := pdrive_any p L m n w h
  have CP := cap_at h n
  have HE := pheld_any p L m n w h
  have hcl := cap_le h n
  have hhl : (m.held n).length ≤ m.capN n := heldTo_length m n _
  unfold PoolM.freeN
  generalize m.capN n = N at *
  generalize m.held n = l at *
  generalize L.at_ n = dv at *
  unfold pptr at *
  clear h
  go_enter Tryz.func21, Tryz.ntmps21
  go_wp2_with (first
    | (go_at_call 39; refine DR.mono ?_; rintro e w' ⟨rfl, rfl⟩)
    | (go_at_call 55; refine CP.mono ?_; rintro e w' ⟨rfl, rfl⟩)
    | (go_at_call 29; refine HE.mono ?_; rintro e w1 ⟨v, rfl, ho, _, hB⟩; obtain ⟨A, c, rfl, _⟩ := own_shape ho))
  go_ret
  exact ⟨rfl, hB⟩
end Go.Proofs.YtblddkjdglliaaaGreatDoor
