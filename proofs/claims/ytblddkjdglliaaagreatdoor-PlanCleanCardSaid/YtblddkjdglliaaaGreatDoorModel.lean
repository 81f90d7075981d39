/- Plain laws of the pool's model: drives that hold entries, one behind the other. No condition. -/
import Derived.Test.YtblddkjdglliaaaGreatDoorLawP
namespace Go.Proofs.YtblddkjdglliaaaGreatDoor
open Go.RowKit

abbrev Ent1 := Int × Int × List Int
def frm (e : Ent1) : List Int := frameL e.1 e.2.1 e.2.2
def contD (d : DriveM) : List (List Int) := flushL d.lasts d.loose
theorem readL_flush (lasts : List (List Int)) (loose : List (Int × List Int)) (hp : ∀ p ∈ loose, 0 ≤ p.1) (i : Nat) (hi : i < lasts.length) :
    readL (lasts[i]?.getD []) loose i = (flushL lasts loose)[i]?.getD [] := by
  revert hp
  refine snoc_ind (P := fun loose => (∀ p ∈ loose, 0 ≤ p.1) → readL (lasts[i]?.getD []) loose i = (flushL lasts loose)[i]?.getD []) ?_ ?_ loose
  · intro _; rfl
  · intro l p ih hp
    rw [readL_snoc, flushL_snoc, List.getElem?_set, ih fun q hq => hp q (by simp [hq])]
    have h0 := hp p (by simp)
    by_cases h : p.1 = i
    · rw [if_pos h, if_pos (by omega), if_pos (by rw [flushL_length]; omega)]; rfl
    · rw [if_neg h, if_neg (by omega)]
/-- The drive has c slots; the first hold the entries E, the others nothing. -/
structure Ent (c : Nat) (E : List Ent1) (d : DriveM) : Prop where
  lost : d.lost = false
  size : d.lasts.length = c
  pos : ∀ p ∈ d.loose, 0 ≤ p.1
  cont : contD d = E.map frm ++ List.replicate (c - E.length) []
  few : E.length ≤ c
  ok : ∀ e ∈ E, 0 ≤ e.1 ∧ e.1 ≤ 4294967295 ∧ e.2.2.length ≤ 50
theorem Ent.readAt {c : Nat} {E : List Ent1} {d : DriveM} (h : Ent c E d) (i : Nat) (hi : i < c) : d.readAt i = (E.map frm ++ List.replicate (c - E.length) [])[i]?.getD [] := by
  have hc : d.check i = 0 := by unfold DriveM.check; rw [h.lost, h.size]; simp; omega
  unfold DriveM.readAt
  rw [if_pos hc, Int.toNat_natCast, readL_flush _ _ h.pos i (by rw [h.size]; exact hi), ← h.cont]
  rfl
theorem Ent.at_in {c : Nat} {E : List Ent1} {d : DriveM} (h : Ent c E d) (i : Nat) (hi : i < E.length) : d.readAt i = frm (E[i]) := by
  rw [h.readAt i (Nat.lt_of_lt_of_le hi h.few), List.getElem?_append_left (by simpa using hi)]
  simp [hi]
theorem Ent.at_out {c : Nat} {E : List Ent1} {d : DriveM} (h : Ent c E d) (i : Nat) (hi : E.length ≤ i) (hc : i < c) : d.readAt i = [] := by
  rw [h.readAt i hc, List.getElem?_append_right (by simpa using hi)]
  simp only [List.length_map]
  rw [List.getElem?_replicate, if_pos (by omega)]; rfl
theorem isAt_frm (st ps : Int) (e : Ent1) (h : 0 ≤ e.1 ∧ e.1 ≤ 4294967295 ∧ e.2.2.length ≤ 50) : isAt st ps (frm e) = decide (e.1 = st ∧ e.2.1 = ps) := by
  obtain ⟨h1, h2, h3, _⟩ := open_frame e.1 e.2.1 e.2.2 h.1 h.2.1 h.2.2
  unfold isAt frm
  rw [h1, h2, h3]
  by_cases a : e.1 = st <;> by_cases b : e.2.1 = ps <;> simp [a, b]
theorem isAt_nil (st ps : Int) : isAt st ps [] = false := by unfold isAt; rw [openOk_nil]; rfl
theorem newD_ent (c : Nat) (hc : c ≤ 128) : Ent c [] (newD c) := by
  have h : (min (max (c : Int) 0) 128).toNat = c := by omega
  refine ⟨rfl, ?_, by simp [newD], ?_, by simp, by simp⟩
  · simp [newD]; omega
  · simp [newD, contD, flushL]; omega

section
variable {m : PoolM} {n : Nat} {d : DriveM} {c : Nat} {E : List Ent1}
theorem drive_at (hd : m.list[n]? = some d) : m.drive? n = some d := by unfold PoolM.drive?; rw [if_pos (by omega), Int.toNat_natCast]; exact hd
theorem slot_at (hd : m.list[n]? = some d) (i : Nat) : m.slot n i = d.readAt i := by unfold PoolM.slot; rw [drive_at hd]
theorem capN_at (hd : m.list[n]? = some d) (h : Ent c E d) : m.capN n = c := by unfold PoolM.capN; rw [drive_at hd]; simp [DriveM.capI, h.lost, h.size]
theorem usable_at (hd : m.list[n]? = some d) (h : Ent c E d) : m.usable n = 0 := by unfold PoolM.usable; rw [drive_at hd]; simp [h.lost]
/-- No entry has this key. -/
def NoKey (E : List Ent1) (st ps : Int) : Prop := ∀ e ∈ E, ¬ (e.1 = st ∧ e.2.1 = ps)
theorem find_no (hd : m.list[n]? = some d) (h : Ent c E d) {st ps : Int} (hk : NoKey E st ps) : m.find n st ps = -1 := by
  unfold PoolM.find
  rw [capN_at hd h]
  refine firstI_none fun i hi => ?_
  rw [slot_at hd]
  by_cases hlt : i < E.length
  · rw [h.at_in i hlt, isAt_frm _ _ _ (h.ok _ (List.getElem_mem hlt))]
    exact decide_eq_false (hk _ (List.getElem_mem hlt))
  · rw [h.at_out i (by omega) hi]; exact isAt_nil _ _
theorem find_at (hd : m.list[n]? = some d) (h : Ent c E d) {st ps : Int} (j : Nat) (hj : j < E.length) (he : (E[j]).1 = st ∧ (E[j]).2.1 = ps) (hu : ∀ i (hi : i < j), ¬ ((E[i]'(by omega)).1 = st ∧ (E[i]'(by omega)).2.1 = ps)) : m.find n st ps = j := by
  unfold PoolM.find
  rw [capN_at hd h]
  refine firstI_hit (Nat.lt_of_lt_of_le hj h.few) ?_ fun i hi => ?_
  · rw [slot_at hd, h.at_in j hj, isAt_frm _ _ _ (h.ok _ (List.getElem_mem hj))]
    exact decide_eq_true he
  · rw [slot_at hd, h.at_in i (by omega), isAt_frm _ _ _ (h.ok _ (List.getElem_mem _))]
    exact decide_eq_false (hu i hi)
theorem free_at (hd : m.list[n]? = some d) (h : Ent c E d) (hl : E.length < c) : m.free n = E.length := by
  unfold PoolM.free
  rw [capN_at hd h]
  refine firstI_hit hl ?_ fun i hi => ?_
  · rw [slot_at hd, h.at_out _ (Nat.le_refl _) hl, openOk_nil]; rfl
  · have := h.ok _ (List.getElem_mem hi)
    rw [slot_at hd, h.at_in i hi, frm, (open_frame _ _ _ this.1 this.2.1 this.2.2).1]; rfl
theorem free_full (hd : m.list[n]? = some d) (h : Ent c E d) (hl : E.length = c) : m.free n = -1 := by
  unfold PoolM.free
  rw [capN_at hd h]
  refine firstI_none fun i hi => ?_
  have hi' : i < E.length := by omega
  have := h.ok _ (List.getElem_mem hi')
  rw [slot_at hd, h.at_in i hi', frm, (open_frame _ _ _ this.1 this.2.1 this.2.2).1]; rfl
/-- A drive to which something was written at a slot. -/
theorem put_loose {d : DriveM} (j : Nat) (bs : List Int) (hpos : ∀ p ∈ d.loose, 0 ≤ p.1) :
    contD { d with loose := d.loose ++ [((j : Int), bs)] } = (contD d).set j bs ∧ ∀ p ∈ d.loose ++ [((j : Int), bs)], 0 ≤ p.1 := by
  refine ⟨?_, fun p hp => ?_⟩
  · show flushL d.lasts (d.loose ++ [((j : Int), bs)]) = _
    rw [flushL_snoc, Int.toNat_natCast]; rfl
  · rcases List.mem_append.1 hp with h | h
    · exact hpos p h
    · simp at h; subst h; simp
/-- The pool has power without end. -/
def Up (m : PoolM) : Prop := m.fuse = -1 ∧ m.down = false
theorem writeAt_up (hu : Up m) (at_ : Int) (bs : List Int) : m.writeAt n at_ bs = (0, m.putLoose n at_ bs) := by
  have hb : m.burn = (true, m) := by unfold PoolM.burn; rw [hu.1, hu.2]; simp
  unfold PoolM.writeAt
  rw [hb]; rfl
theorem store_at (hd : m.list[n]? = some d) (h : Ent c E d) (hu : Up m) {st ps : Int} {bs : List Int} (hk : NoKey E st ps) (hl : E.length < c) (hok : 0 ≤ st ∧ st ≤ 4294967295 ∧ bs.length ≤ 50) :
    ∃ d', m.store n st ps bs = (0, { m with list := m.list.set n d' }) ∧ Ent c (E ++ [(st, ps, bs)]) d' ∧ d'.loose.length = d.loose.length + 1 := by
  have hp : m.place n st ps = E.length := by unfold PoolM.place; rw [find_no hd h hk, if_pos (by omega), free_at hd h hl]
  refine ⟨{ d with loose := d.loose ++ [((E.length : Int), frameL st ps bs)] }, ?_, ?_, by simp⟩
  · unfold PoolM.store
    rw [drive_at hd]
    show (if d.lost = true then _ else _) = _
    rw [if_neg (by simp [h.lost]), hp, if_neg (by omega), Int.toNat_natCast, writeAt_up hu]
    unfold PoolM.putLoose
    rw [hd]; rfl
  · obtain ⟨h1, h2⟩ := put_loose (d := d) E.length (frameL st ps bs) h.pos
    refine ⟨h.lost, h.size, h2, ?_, by simp; omega, ?_⟩
    · rw [h1, h.cont]
      have e : List.replicate (c - E.length) ([] : List Int) = [] :: List.replicate (c - (E.length + 1)) [] := by
        rw [show c - E.length = (c - (E.length + 1)) + 1 by omega, List.replicate_succ]
      rw [e, List.map_append, List.length_append, List.length_singleton]
      have hl' : E.length = (E.map frm).length := by simp
      conv => lhs; rw [hl']
      rw [List.set_append_right _ _ (Nat.le_refl _)]
      simp [frm]
    · intro e he
      rcases List.mem_append.1 he with x | x
      · exact h.ok e x
      · simp at x; subst x; exact hok
theorem store_full (hd : m.list[n]? = some d) (h : Ent c E d) {st ps : Int} {bs : List Int} (hk : NoKey E st ps) (hl : E.length = c) : m.store n st ps bs = (3, m) := by
  have hp : m.place n st ps = -1 := by unfold PoolM.place; rw [find_no hd h hk, if_pos (by omega), free_full hd h hl]
  unfold PoolM.store
  rw [drive_at hd]
  simp only [h.lost, Bool.false_eq_true, if_false]
  rw [hp, if_pos (by omega)]
theorem flush_at (hd : m.list[n]? = some d) (h : Ent c E d) (hu : Up m) : ∃ d', m.flush n = (0, { m with list := m.list.set n d' }) ∧ Ent c E d' ∧ d'.loose = [] := by
  have hb : m.burn = (true, m) := by unfold PoolM.burn; rw [hu.1, hu.2]; simp
  refine ⟨d.flushed, ?_, ⟨h.lost, ?_, by simp [DriveM.flushed], ?_, h.few, h.ok⟩, rfl⟩
  · unfold PoolM.flush
    rw [usable_at hd h, if_neg (by simp), hb, if_pos rfl, Int.toNat_natCast, hd]
    rfl
  · show (flushL d.lasts d.loose).length = c
    rw [flushL_length, h.size]
  · rw [← h.cont]; rfl
theorem load_at (hd : m.list[n]? = some d) (h : Ent c E d) {st ps : Int} {bs : List Int} (j : Nat) (hj : j < E.length) (he : E[j] = (st, ps, bs)) (hu : ∀ i (hi : i < j), ¬ ((E[i]'(by omega)).1 = st ∧ (E[i]'(by omega)).2.1 = ps)) : m.load n st ps = (0, bs) := by
  have hf := find_at hd h j hj (by rw [he]; exact ⟨rfl, rfl⟩) hu
  have hok := h.ok _ (List.getElem_mem hj)
  rw [he] at hok
  unfold PoolM.load
  rw [usable_at hd h, if_neg (by simp), hf, if_neg (by omega), Int.toNat_natCast, slot_at hd, h.at_in j hj, he, frm]
  rw [(open_frame st ps bs hok.1 hok.2.1 hok.2.2).2.2.2]
theorem lasts_at (hd : m.list[n]? = some d) (h : Ent c E d) (hl : d.loose = []) {st ps : Int} {bs : List Int} (j : Nat) (hj : j < E.length) (he : E[j] = (st, ps, bs)) : m.lastsB n st ps = true := by
  have hok := h.ok _ (List.getElem_mem hj)
  have hs : ∀ i, i < c → m.lastSlot n i = d.readAt i := by
    intro i hi
    unfold PoolM.lastSlot
    rw [drive_at hd]
    show d.lastAt i = d.readAt i
    unfold DriveM.lastAt DriveM.readAt
    rw [hl]; rfl
  unfold PoolM.lastsB
  rw [capN_at hd h]
  have hc : j < c := Nat.lt_of_lt_of_le hj h.few
  have hit : isAt st ps (m.lastSlot n j) = true := by
    rw [hs j hc, h.at_in j hj, isAt_frm _ _ _ hok, he]
    exact decide_eq_true ⟨rfl, rfl⟩
  rcases firstI_cases c (fun i => isAt st ps (m.lastSlot n i)) with ⟨_, hno⟩ | ⟨k, _, h2, _⟩
  · rw [hno j hc] at hit; cases hit
  · rw [h2]; exact decide_eq_true (by omega)
theorem held_at (hd : m.list[n]? = some d) (h : Ent c E d) : m.held n = E.map fun e => (e.1, e.2.1) := by
  unfold PoolM.held
  rw [capN_at hd h]
  have key : ∀ k, k ≤ c → m.heldTo n k = (E.take k).map fun e => (e.1, e.2.1) := by
    intro k
    induction k with
    | zero => intro _; simp [PoolM.heldTo]
    | succ k ih =>
      intro hk
      rw [heldTo_succ, ih (by omega), slot_at hd]
      by_cases hlt : k < E.length
      · have hok := h.ok _ (List.getElem_mem hlt)
        obtain ⟨o1, o2, o3, _⟩ := open_frame (E[k]).1 (E[k]).2.1 (E[k]).2.2 hok.1 hok.2.1 hok.2.2
        rw [h.at_in k hlt, frm, if_pos o1, o2, o3, List.take_add_one]
        rw [List.map_append, List.getElem?_eq_getElem hlt]; rfl
      · rw [h.at_out k (by omega) (by omega), openOk_nil]
        simp only [Bool.false_eq_true, if_false]
        rw [List.take_of_length_le (by omega), List.take_of_length_le (by omega)]
  rw [key c (Nat.le_refl _), List.take_of_length_le h.few]
theorem freeN_at (hd : m.list[n]? = some d) (h : Ent c E d) : m.freeN n = (c : Int) - E.length := by
  unfold PoolM.freeN
  rw [capN_at hd h, held_at hd h, List.length_map]
/-- The only entry is taken away. -/
theorem erase_at (hd : m.list[n]? = some d) {e : Ent1} (h : Ent c [e] d) (hu : Up m) : ∃ d', m.erase n e.1 e.2.1 = (0, { m with list := m.list.set n d' }) ∧ Ent c [] d' ∧ d'.loose.length = d.loose.length + 1 := by
  have hf : m.find n e.1 e.2.1 = 0 := find_at hd h 0 (by simp) ⟨rfl, rfl⟩ (fun i hi => by omega)
  refine ⟨{ d with loose := d.loose ++ [(0, [])] }, ?_, ?_, by simp⟩
  · unfold PoolM.erase
    rw [usable_at hd h, if_neg (by simp), hf, if_neg (by omega), Int.toNat_natCast, writeAt_up hu]
    unfold PoolM.putLoose
    rw [hd]; rfl
  · obtain ⟨h1, h2⟩ := put_loose (d := d) 0 [] h.pos
    refine ⟨h.lost, h.size, h2, ?_, by simp, by simp⟩
    have h3 := h.few
    simp only [List.length_singleton] at h3
    have : contD { d with loose := d.loose ++ [(0, [])] } = (contD d).set 0 [] := h1
    rw [this, h.cont]
    simp only [List.map_cons, List.map_nil, List.length_singleton, List.cons_append, List.nil_append, List.set_cons_zero, List.length_nil, Nat.sub_zero]
    rw [← List.replicate_succ]
    congr 1
    omega
theorem list_set (hd : m.list[n]? = some d) (d' : DriveM) : (m.list.set n d')[n]? = some d' := by
  have hlt : n < m.list.length := (List.getElem?_eq_some_iff.1 hd).1
  rw [List.getElem?_set, if_pos rfl, if_pos hlt]
theorem list_set_ne {n' : Nat} (hne : n ≠ n') (d' : DriveM) : (m.list.set n d')[n']? = m.list[n']? := by rw [List.getElem?_set, if_neg hne]
end
end Go.Proofs.YtblddkjdglliaaaGreatDoor
