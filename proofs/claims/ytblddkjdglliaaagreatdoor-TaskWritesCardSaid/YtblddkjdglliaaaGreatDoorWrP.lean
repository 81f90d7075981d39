/- Plain law for TaskWrites: the shards of a planned Put, one behind the other, lie on their drives; behind the flushes they last. No condition. -/
import Derived.Test.YtblddkjdglliaaaGreatDoorModel
namespace Go.Proofs.YtblddkjdglliaaaGreatDoor
open Go.RowKit

theorem mem_read {mp : PoolM} {n : Nat} {d : DriveM} {c : Nat} {E : List Ent1} (hd : mp.list[n]? = some d) (h : Ent c E d) {st ps : Int} {bs : List Int} (hm : (st, ps, bs) ∈ E) (hu : ∀ e ∈ E, e.1 = st → e.2.1 = ps → e = (st, ps, bs)) :
    mp.load n st ps = (0, bs) ∧ (d.loose = [] → mp.lastsB n st ps = true) := by
  obtain ⟨i, hi, he⟩ := List.getElem_of_mem hm
  refine ⟨?_, fun hl => lasts_at hd h hl i hi he⟩
  have hit : isAt st ps (mp.slot n i) = true := by
    rw [slot_at hd, h.at_in i hi, isAt_frm _ _ _ (h.ok _ (List.getElem_mem hi)), he]
    exact decide_eq_true ⟨rfl, rfl⟩
  rcases firstI_cases (mp.capN n) (fun i => isAt st ps (mp.slot n i)) with ⟨_, hno⟩ | ⟨k, hk, _, hk2, hk3⟩
  · rw [hno i (by rw [capN_at hd h]; exact Nat.lt_of_lt_of_le hi h.few)] at hit; cases hit
  · have hkc : k < c := by rw [capN_at hd h] at hk; exact hk
    have hkE : k < E.length := by
      rcases Nat.lt_or_ge k E.length with x | x
      · exact x
      · rw [slot_at hd, h.at_out k x hkc, isAt_nil] at hk2; cases hk2
    rw [slot_at hd, h.at_in k hkE, isAt_frm _ _ _ (h.ok _ (List.getElem_mem hkE))] at hk2
    have hk4 := of_decide_eq_true hk2
    refine load_at hd h k hkE (hu _ (List.getElem_mem hkE) hk4.1 hk4.2) fun q hq => ?_
    have := hk3 q hq
    rw [slot_at hd, h.at_in q (by omega), isAt_frm _ _ _ (h.ok _ (List.getElem_mem _))] at this
    exact of_decide_eq_false this

/-- A planned task whose stripes lie on drives below D, no two shards of one stripe on one drive. -/
structure Laid (T : TaskM) (k m D : Nat) : Prop where
  ready : Ready T k m
  pos : 1 ≤ k
  few : T.strs.length ≤ 12
  most : k + m ≤ 7
  loc : ∀ q r, q < T.strs.length → r < k + m → ∃ j : Nat, T.locAt q r = (j : Int) ∧ j < D
  nd : ∀ q r r', q < T.strs.length → r < k + m → r' < k + m → T.locAt q r = T.locAt q r' → r = r'
  ids : ∀ q q', q < T.strs.length → q' < T.strs.length → (T.strs[q]?.getD .zero).id = (T.strs[q']?.getD .zero).id → q = q'
section
variable (T : TaskM) (k m : Nat)
def plc (a : Nat) : Int := T.locAt (a / (k + m)) (a % (k + m))
def ent (a : Nat) : Ent1 := ((T.strs[a / (k + m)]?.getD .zero).id, ((a % (k + m) : Nat) : Int), shardL k m T.data (a / (k + m)) (a % (k + m)))
def EJ (j : Nat) (a : Nat) : List Ent1 := ((List.range a).filter fun x => decide (plc T k m x = (j : Int))).map (ent T k m)
theorem EJ_succ (j a : Nat) : EJ T k m j (a + 1) = if plc T k m a = (j : Int) then EJ T k m j a ++ [ent T k m a] else EJ T k m j a := by
  unfold EJ
  rw [List.range_succ, List.filter_append, List.map_append]
  by_cases h : plc T k m a = (j : Int)
  · rw [if_pos h]; simp [h]
  · rw [if_neg h]; simp [h]
theorem mem_EJ (j a : Nat) (e : Ent1) : e ∈ EJ T k m j a ↔ ∃ x, x < a ∧ plc T k m x = (j : Int) ∧ ent T k m x = e := by
  simp [EJ, and_assoc]
end
section
variable {T : TaskM} {k m D : Nat} (L : Laid T k m D)
include L
theorem Laid.div_lt {a : Nat} (h : a < T.strs.length * (k + m)) : a / (k + m) < T.strs.length ∧ a % (k + m) < k + m := by
  have := L.pos
  exact ⟨Nat.div_lt_of_lt_mul (by rw [Nat.mul_comm]; exact h), Nat.mod_lt _ (by omega)⟩
theorem Laid.key {x y : Nat} (hx : x < T.strs.length * (k + m)) (hy : y < T.strs.length * (k + m)) (h1 : (ent T k m x).1 = (ent T k m y).1) (h2 : (ent T k m x).2.1 = (ent T k m y).2.1) : x = y := by
  have e1 := L.ids _ _ (L.div_lt hx).1 (L.div_lt hy).1 h1
  have e2 : x % (k + m) = y % (k + m) := by
    have : ((x % (k + m) : Nat) : Int) = ((y % (k + m) : Nat) : Int) := h2
    omega
  rw [← Nat.div_add_mod x (k + m), ← Nat.div_add_mod y (k + m), e1, e2]
theorem Laid.at_ {q r : Nat} (hq : q < T.strs.length) (hr : r < k + m) : q * (k + m) + r < T.strs.length * (k + m) ∧ (q * (k + m) + r) / (k + m) = q ∧ (q * (k + m) + r) % (k + m) = r := by
  have := L.pos
  refine ⟨?_, ?_, ?_⟩
  · have h1 : (q + 1) * (k + m) ≤ T.strs.length * (k + m) := Nat.mul_le_mul_right _ hq
    rw [Nat.succ_mul] at h1
    omega
  · rw [Nat.mul_comm, Nat.mul_add_div (by omega), Nat.div_eq_of_lt hr, Nat.add_zero]
  · rw [Nat.mul_comm, Nat.mul_add_mod, Nat.mod_eq_of_lt hr]
theorem Laid.cnt_in (j : Nat) {q : Nat} (hq : q < T.strs.length) (h0 : (EJ T k m j (q * (k + m))).length ≤ q) : ∀ r, r ≤ k + m → (EJ T k m j (q * (k + m) + r)).length ≤ q + 1 ∧ ((∀ r', r' < r → plc T k m (q * (k + m) + r') ≠ (j : Int)) → (EJ T k m j (q * (k + m) + r)).length ≤ q)
  | 0, _ => ⟨by rw [Nat.add_zero]; omega, fun _ => by rw [Nat.add_zero]; exact h0⟩
  | r + 1, hr => by
    obtain ⟨i1, i2⟩ := Laid.cnt_in j hq h0 r (by omega)
    rw [← Nat.add_assoc, EJ_succ]
    by_cases e : plc T k m (q * (k + m) + r) = (j : Int)
    · rw [if_pos e]
      have hno : ∀ r', r' < r → plc T k m (q * (k + m) + r') ≠ (j : Int) := by
        intro r' hr' e'
        obtain ⟨_, a1, a2⟩ := L.at_ hq (show r < k + m by omega)
        obtain ⟨_, b1, b2⟩ := L.at_ hq (show r' < k + m by omega)
        have e3 : T.locAt q r = T.locAt q r' := by
          unfold plc at e e'
          rw [a1, a2] at e
          rw [b1, b2] at e'
          rw [e, e']
        have := L.nd q r r' hq (by omega) (by omega) e3
        omega
      have := i2 hno
      refine ⟨by simp; omega, fun hh => absurd e (hh r (by omega))⟩
    · rw [if_neg e]
      exact ⟨i1, fun hh => i2 fun r' hr' => hh r' (by omega)⟩
theorem Laid.cnt (j : Nat) : ∀ q, q ≤ T.strs.length → (EJ T k m j (q * (k + m))).length ≤ q
  | 0, _ => by simp [EJ]
  | q + 1, h => by
    have := (L.cnt_in j (show q < T.strs.length by omega) (Laid.cnt j q (by omega)) (k + m) (Nat.le_refl _)).1
    rw [Nat.succ_mul]; exact this
theorem Laid.cnt_le (j : Nat) {a : Nat} (h : a ≤ T.strs.length * (k + m)) : (EJ T k m j a).length ≤ 12 := by
  have hf := L.few
  rcases Nat.lt_or_ge a (T.strs.length * (k + m)) with hlt | hge
  · obtain ⟨h1, h2⟩ := L.div_lt hlt
    have := (L.cnt_in j h1 (L.cnt j _ (by omega)) (a % (k + m)) (by omega)).1
    rw [Nat.mul_comm, Nat.div_add_mod] at this
    omega
  · have e : a = T.strs.length * (k + m) := by omega
    rw [e]
    have := L.cnt j T.strs.length (Nat.le_refl _)
    omega
theorem Laid.shard (a : Nat) (h : a < T.strs.length * (k + m)) : 0 ≤ (ent T k m a).1 ∧ (ent T k m a).1 ≤ 4294967295 ∧ (ent T k m a).2.2.length ≤ 50 := by
  obtain ⟨h1, h2⟩ := L.div_lt h
  have := L.ready.ids _ h1
  refine ⟨this.1, by show (T.strs[a / (k + m)]?.getD .zero).id ≤ _; omega, ?_⟩
  show (shardL k m T.data (a / (k + m)) (a % (k + m))).length ≤ 50
  rw [shardL_len k m _ _ _ h2]; decide
/-- So many shards are stored. -/
structure WI (T : TaskM) (k m D : Nat) (mp : PoolM) (a : Nat) : Prop where
  up : Up mp
  len : mp.list.length = D
  all : ∀ j, j < D → ∃ d, mp.list[j]? = some d ∧ Ent 20 (EJ T k m j a) d ∧ d.loose.length ≤ a
omit L in
theorem WI.room {mp : PoolM} {a : Nat} (h : WI T k m D mp a) (ha : a ≤ 1000) : mp.room := by
  intro d hd
  obtain ⟨j, hj, rfl⟩ := List.getElem_of_mem hd
  obtain ⟨d, h1, _, h3⟩ := h.all j (by rw [← h.len]; exact hj)
  rw [List.getElem?_eq_getElem hj] at h1
  cases h1; omega
theorem Laid.step {mp : PoolM} {a : Nat} (h : WI T k m D mp a) (ha : a < T.strs.length * (k + m)) : ∃ mp', T.step k m mp a = (0, mp') ∧ WI T k m D mp' (a + 1) := by
  obtain ⟨h1, h2⟩ := L.div_lt ha
  obtain ⟨j, hj, hjD⟩ := L.loc _ _ h1 h2
  obtain ⟨d, hd, hE, hlo⟩ := h.all j hjD
  have hcl := L.cnt_le j (Nat.le_of_lt ha)
  have hst : T.step k m mp a = mp.store j (ent T k m a).1 (ent T k m a).2.1 (ent T k m a).2.2 := by
    rw [TaskM.step, if_pos ha, hj]; rfl
  have hnk : NoKey (EJ T k m j a) (ent T k m a).1 (ent T k m a).2.1 := by
    rintro e he ⟨k1, k2⟩
    obtain ⟨x, hx, _, rfl⟩ := (mem_EJ T k m j a e).1 he
    have := L.key (by omega) ha k1 k2
    omega
  obtain ⟨d', s1, s2, s3⟩ := store_at hd hE h.up hnk (by omega) (L.shard a ha)
  refine ⟨_, hst.trans s1, ⟨h.up, by simp [h.len], fun j' hj' => ?_⟩⟩
  have hpl : plc T k m a = (j : Int) := hj
  by_cases e : j = j'
  · subst e
    refine ⟨d', list_set hd d', ?_, by omega⟩
    rw [EJ_succ, if_pos hpl]; exact s2
  · obtain ⟨d2, g1, g2, g3⟩ := h.all j' hj'
    refine ⟨d2, by show (mp.list.set j d')[j']? = _; rw [list_set_ne e]; exact g1, ?_, by omega⟩
    rw [EJ_succ, if_neg (by rw [hpl]; omega)]; exact g2
/-- All shards are stored, and so many drives told to flush. -/
structure WF (T : TaskM) (k m D : Nat) (mp : PoolM) (b : Nat) : Prop where
  up : Up mp
  len : mp.list.length = D
  all : ∀ j, j < D → ∃ d, mp.list[j]? = some d ∧ Ent 20 (EJ T k m j (T.strs.length * (k + m))) d ∧ ((∃ x, x < b ∧ plc T k m x = (j : Int)) → d.loose = [])
omit L in
theorem WI.turn {mp : PoolM} (h : WI T k m D mp (T.strs.length * (k + m))) : WF T k m D mp 0 :=
  ⟨h.up, h.len, fun j hj => by obtain ⟨d, h1, h2, _⟩ := h.all j hj; exact ⟨d, h1, h2, fun ⟨x, hx, _⟩ => by omega⟩⟩
theorem Laid.flush {mp : PoolM} {b : Nat} (h : WF T k m D mp b) (hb : b < T.strs.length * (k + m)) : ∃ mp', T.step k m mp (T.strs.length * (k + m) + b) = (0, mp') ∧ WF T k m D mp' (b + 1) := by
  obtain ⟨h1, h2⟩ := L.div_lt hb
  obtain ⟨j, hj, hjD⟩ := L.loc _ _ h1 h2
  obtain ⟨d, hd, hE, hlo⟩ := h.all j hjD
  have hst : T.step k m mp (T.strs.length * (k + m) + b) = mp.flush j := by
    rw [TaskM.step, if_neg (by omega), Nat.add_sub_cancel_left, hj]
  obtain ⟨d', s1, s2, s3⟩ := flush_at hd hE h.up
  refine ⟨_, hst.trans s1, ⟨h.up, by simp [h.len], fun j' hj' => ?_⟩⟩
  have hpl : plc T k m b = (j : Int) := hj
  by_cases e : j = j'
  · subst e
    exact ⟨d', list_set hd d', s2, fun _ => s3⟩
  · obtain ⟨d2, g1, g2, g3⟩ := h.all j' hj'
    refine ⟨d2, by show (mp.list.set j d')[j']? = _; rw [list_set_ne e]; exact g1, g2, ?_⟩
    rintro ⟨x, hx, hxp⟩
    refine g3 ⟨x, ?_, hxp⟩
    rcases Nat.lt_or_ge x b with h | h
    · exact h
    · have : x = b := by omega
      subst this
      rw [hpl] at hxp; omega
/-- Behind all: each shard is told, and lasts. -/
theorem Laid.told {mp : PoolM} (h : WF T k m D mp (T.strs.length * (k + m))) {q r : Nat} (hq : q < T.strs.length) (hr : r < k + m) :
    mp.load (T.locAt q r) (T.strs[q]?.getD .zero).id r = (0, shardL k m T.data q r) ∧ mp.lastsB (T.locAt q r) (T.strs[q]?.getD .zero).id r = true := by
  obtain ⟨a1, a2, a3⟩ := L.at_ hq hr
  obtain ⟨j, hj, hjD⟩ := L.loc q r hq hr
  obtain ⟨d, hd, hE, hlo⟩ := h.all j hjD
  have hpl : plc T k m (q * (k + m) + r) = (j : Int) := by unfold plc; rw [a2, a3]; exact hj
  have hen : ent T k m (q * (k + m) + r) = ((T.strs[q]?.getD .zero).id, (r : Int), shardL k m T.data q r) := by unfold ent; rw [a2, a3]
  have hm := (mem_EJ T k m j _ _).2 ⟨_, a1, hpl, hen⟩
  rw [hj]
  obtain ⟨r1, r2⟩ := mem_read hd hE hm (by
    intro e he k1 k2
    obtain ⟨x, hx, _, rfl⟩ := (mem_EJ T k m j _ e).1 he
    have : x = q * (k + m) + r := L.key hx a1 (by rw [k1, hen]) (by rw [k2, hen])
    rw [this, hen])
  exact ⟨r1, r2 (hlo ⟨_, a1, hpl⟩)⟩
end
end Go.Proofs.YtblddkjdglliaaaGreatDoor
