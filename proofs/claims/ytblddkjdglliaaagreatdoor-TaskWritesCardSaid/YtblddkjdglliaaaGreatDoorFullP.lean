/- Plain law for TaskFull: three drives with one slot each, one of them full. No condition. -/
import Derived.Test.YtblddkjdglliaaaGreatDoorModel
namespace Go.Proofs.YtblddkjdglliaaaGreatDoor
open Go.RowKit

theorem sum_count {l : List Int} (h : l.Perm [0, 1, 2]) : l.length = 3 ∧ l.Nodup ∧ (∀ x ∈ l, x = 0 ∨ x = 1 ∨ x = 2) ∧ ∃ r, r < 3 ∧ l[r]? = some 1 := by
  refine ⟨h.length_eq, h.nodup_iff.2 (by decide), fun x hx => ?_, ?_⟩
  · have := h.mem_iff.1 hx
    simpa using this
  · have h1 : (1 : Int) ∈ l := h.mem_iff.2 (by simp)
    obtain ⟨r, hr, e⟩ := List.getElem_of_mem h1
    have h3 : l.length = 3 := h.length_eq
    exact ⟨r, by omega, by rw [List.getElem?_eq_getElem hr, e]⟩
/-- Drive 1 is full; the others hold nothing but what is stored among the first i. -/
structure FullI (locs : List Int) (m : PoolM) (i : Nat) : Prop where
  up : Up m
  len : m.list.length = 3
  small : i ≤ 3
  one : ∃ d, m.list[1]? = some d ∧ Ent 1 [(9999, 0, [])] d ∧ d.loose.length ≤ i + 5
  rest : ∀ j : Nat, j < 3 → j ≠ 1 → ∃ d E, m.list[j]? = some d ∧ Ent 1 E d ∧ ((∀ i', i' < i → locs[i']? ≠ some (j : Int)) → E = []) ∧ d.loose.length ≤ i + 5
theorem nat_of {x : Int} (h : x = 0 ∨ x = 1 ∨ x = 2) : ∃ j : Nat, x = (j : Int) ∧ j < 3 := ⟨x.toNat, by omega, by omega⟩
theorem FullI.room {locs : List Int} {m : PoolM} {i : Nat} (h : FullI locs m i) : m.room := by
  intro d hd
  obtain ⟨j, hj, rfl⟩ := List.getElem_of_mem hd
  have hj3 : j < 3 := by rw [← h.len]; exact hj
  by_cases e : j = 1
  · subst e
    obtain ⟨d, h1, _, h3⟩ := h.one
    rw [List.getElem?_eq_getElem hj] at h1
    cases h1; have := h.small; omega
  · obtain ⟨d, E, h1, _, _, h3⟩ := h.rest j hj3 e
    rw [List.getElem?_eq_getElem hj] at h1
    cases h1; have := h.small; omega
theorem FullI.step {locs : List Int} {m : PoolM} {i : Nat} (h : FullI locs m i) (hp : locs.Perm [0, 1, 2]) (hi : i < 3) (hne : locs[i]?.getD 0 ≠ 1) (bs : List Int) (hb : bs.length ≤ 50) :
    (m.store (locs[i]?.getD 0) 16 i bs).1 = 0 ∧ FullI locs (m.store (locs[i]?.getD 0) 16 i bs).2 (i + 1) := by
  obtain ⟨hl, hnd, hmem, _⟩ := sum_count hp
  have hil : i < locs.length := by omega
  rw [List.getElem?_eq_getElem hil] at hne ⊢
  simp only [Option.getD_some] at hne ⊢
  obtain ⟨j, hj, hj3⟩ := nat_of (hmem _ (List.getElem_mem hil))
  rw [hj] at hne ⊢
  have hj1 : j ≠ 1 := by omega
  obtain ⟨d, E, hd, hE, hemp, hlo⟩ := h.rest j hj3 hj1
  have hE0 : E = [] := hemp fun i' hi' e => by
    have hi2 : i' < locs.length := by omega
    rw [List.getElem?_eq_getElem hi2, ← hj] at e
    have := (List.getElem_inj hnd).1 (Option.some.inj e)
    omega
  subst hE0
  obtain ⟨d', hs, hE', hl'⟩ := store_at (st := 16) (ps := (i : Int)) (bs := bs) hd hE h.up (fun e he => by simp at he) (by decide) ⟨by decide, by decide, hb⟩
  have hd' := list_set hd d'
  rw [hs]
  refine ⟨rfl, ⟨h.up, by simp [h.len], by omega, ?_, ?_⟩⟩
  · obtain ⟨d1, h1, h2, h3⟩ := h.one
    exact ⟨d1, by show (m.list.set j d')[1]? = _; rw [list_set_ne hj1]; exact h1, h2, by omega⟩
  · intro j' hj' hj1'
    by_cases e : j = j'
    · subst e
      refine ⟨d', _, hd', hE', fun hno => ?_, ?_⟩
      · exact absurd (by rw [List.getElem?_eq_getElem hil, hj]) (hno i (by omega))
      · omega
    · obtain ⟨d2, E2, h1, h2, h3, h4⟩ := h.rest j' hj' hj1'
      exact ⟨d2, E2, by show (m.list.set j d')[j']? = _; rw [list_set_ne e]; exact h1, h2, fun hno => h3 fun i' hi' => hno i' (by omega), by omega⟩
/-- The full drive tells so. -/
theorem FullI.full {locs : List Int} {m : PoolM} {i r : Nat} (h : FullI locs m i) (bs : List Int) : m.store 1 16 r bs = (3, m) := by
  obtain ⟨d, h1, h2, _⟩ := h.one
  exact store_full (n := 1) h1 h2 (fun e he => by simp at he; subst he; simp) rfl
/-- There is room again: the shard goes. -/
theorem FullI.again {locs : List Int} {m : PoolM} {i : Nat} (h : FullI locs m i) : ∃ m', m.erase 1 9999 0 = (0, m') ∧ m'.room ∧ ∀ (r : Nat) (bs : List Int), bs.length ≤ 50 → ∃ m2, m'.store 1 16 r bs = (0, m2) ∧ (m2.held 1).length = 1 := by
  obtain ⟨d, h1, h2, h3⟩ := h.one
  obtain ⟨d', e1, e2, e3⟩ := erase_at (n := 1) h1 h2 h.up
  have e1' : m.erase 1 9999 0 = _ := e1
  refine ⟨_, e1', ?_, fun r bs hb => ?_⟩
  · intro x hx
    rcases List.mem_or_eq_of_mem_set hx with hx | rfl
    · exact h.room x hx
    · have := h.small; omega
  · have hd' : ({ m with list := m.list.set 1 d' } : PoolM).list[1]? = some d' := list_set h1 d'
    obtain ⟨d2, s1, s2, _⟩ := store_at (n := 1) (st := 16) (ps := (r : Int)) (bs := bs) hd' e2 h.up (fun e he => by simp at he) (by decide) ⟨by decide, by decide, hb⟩
    refine ⟨_, s1, ?_⟩
    have hh := held_at (m := { m with list := (m.list.set 1 d').set 1 d2 }) (n := 1) (list_set hd' d2) s2
    have hh' : ({ m with list := (m.list.set 1 d').set 1 d2 } : PoolM).held 1 = _ := hh
    rw [show ({ ({ m with list := m.list.set 1 d' } : PoolM) with list := ({ m with list := m.list.set 1 d' } : PoolM).list.set 1 d2 } : PoolM) = { m with list := (m.list.set 1 d').set 1 d2 } from rfl, hh']
    rfl
/-- The beginning: one store into drive 1 of three empty ones. -/
theorem full_zero (locs : List Int) : ∃ m, (PoolM.mk [newD 1, newD 1, newD 1] (-1) false).store 1 9999 0 [] = (0, m) ∧ FullI locs m 0 := by
  have hd : (PoolM.mk [newD 1, newD 1, newD 1] (-1) false).list[1]? = some (newD (1 : Nat)) := rfl
  obtain ⟨d', s1, s2, s3⟩ := store_at (n := 1) (st := 9999) (ps := 0) (bs := []) hd (newD_ent 1 (by decide)) ⟨rfl, rfl⟩ (fun e he => by simp at he) (by decide) ⟨by decide, by decide, by decide⟩
  have s1' : (PoolM.mk [newD 1, newD 1, newD 1] (-1) false).store 1 9999 0 [] = _ := s1
  refine ⟨_, s1', ⟨⟨rfl, rfl⟩, rfl, by decide, ⟨d', rfl, s2, by rw [s3]; decide⟩, fun j hj hj1 => ?_⟩⟩
  have : j = 0 ∨ j = 2 := by omega
  rcases this with rfl | rfl
  · exact ⟨newD (1 : Nat), [], rfl, newD_ent 1 (by decide), fun _ => rfl, by decide⟩
  · exact ⟨newD (1 : Nat), [], rfl, newD_ent 1 (by decide), fun _ => rfl, by decide⟩
end Go.Proofs.YtblddkjdglliaaaGreatDoor
