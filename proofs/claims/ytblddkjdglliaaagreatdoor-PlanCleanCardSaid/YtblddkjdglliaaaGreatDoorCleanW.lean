/- Plain law: law 17's PlanClean over the pool's and the table's models. No condition. | The walk of law 17's PlanClean. Condition: the table of turns. -/
import Derived.Test.YtblddkjdglliaaaGreatDoorLaw17
import Derived.Test.YtblddkjdglliaaaGreatDoorModel
import Derived.Test.YtblddkjdglliaaaGreatDoorQTail
namespace Go.Proofs.YtblddkjdglliaaaGreatDoor
open Go.RowKit Go.Maps

/-- The entries of drive j once the first a shards of l, three to a stripe, are stored. -/
def shP (l : List StripeM) (x : Nat) : Int := (l[x / 3]?.getD .zero).locs[x % 3]?.getD 0
def shE (l : List StripeM) (x : Nat) : Ent1 := ((l[x / 3]?.getD .zero).id, ((x % 3 : Nat) : Int), [])
def ED (l : List StripeM) (j : Nat) : Nat → List Ent1
  | 0 => []
  | a + 1 => if shP l a = (j : Int) then ED l j a ++ [shE l a] else ED l j a
theorem mem_ED (l : List StripeM) (j a : Nat) (e : Ent1) : e ∈ ED l j a ↔ ∃ x, x < a ∧ shP l x = (j : Int) ∧ shE l x = e := by
  induction a with
  | zero => simp [ED]
  | succ a ih =>
    unfold ED
    split
    · rename_i h
      rw [List.mem_append, ih, List.mem_singleton]
      constructor
      · rintro (⟨x, h1, h2, h3⟩ | rfl)
        · exact ⟨x, by omega, h2, h3⟩
        · exact ⟨a, by omega, h, rfl⟩
      · rintro ⟨x, h1, h2, h3⟩
        by_cases e : x = a
        · subst e; exact .inr h3.symm
        · exact .inl ⟨x, by omega, h2, h3⟩
    · rename_i h
      rw [ih]
      constructor
      · rintro ⟨x, h1, h2, h3⟩; exact ⟨x, by omega, h2, h3⟩
      · rintro ⟨x, h1, h2, h3⟩
        refine ⟨x, ?_, h2, h3⟩
        by_cases e : x = a
        · subst e; exact absurd h2 h
        · omega
theorem ED_len (l : List StripeM) (j a : Nat) : (ED l j a).length ≤ a := by
  induction a with
  | zero => simp [ED]
  | succ a ih =>
    unfold ED
    split
    · simp; omega
    · omega
/-- Stripes as PlanClean has them. -/
structure Lst (l : List StripeM) : Prop where
  n : 1 ≤ l.length ∧ l.length ≤ 8
  ok : ∀ s ∈ l, StrOk 2 1 s ∧ 0 ≤ s.id ∧ s.id ≤ 1000
  ids : ∀ i j, i < l.length → j < l.length → (l[i]?.getD .zero).id = (l[j]?.getD .zero).id → i = j
/-- So many shards are stored. -/
structure PC (l : List StripeM) (mp : PoolM) (a : Nat) : Prop where
  up : Up mp
  len : mp.list.length = 12
  all : ∀ j, j < 12 → ∃ d, mp.list[j]? = some d ∧ Ent 30 (ED l j a) d ∧ d.loose.length ≤ a
theorem PC.room {l : List StripeM} {mp : PoolM} {a : Nat} (h : PC l mp a) (ha : a ≤ 1000) : mp.room := by
  intro d hd
  obtain ⟨j, hj, rfl⟩ := List.getElem_of_mem hd
  obtain ⟨d, h1, _, h3⟩ := h.all j (by rw [← h.len]; exact hj)
  rw [List.getElem?_eq_getElem hj] at h1
  cases h1; omega
theorem Lst.at {l : List StripeM} (L : Lst l) {x : Nat} (hx : x < 3 * l.length) : StrOk 2 1 (l[x / 3]?.getD .zero) ∧ 0 ≤ (l[x / 3]?.getD .zero).id ∧ (l[x / 3]?.getD .zero).id ≤ 1000 ∧ 0 ≤ shP l x ∧ shP l x ≤ 11 := by
  have hi : x / 3 < l.length := by omega
  have h := L.ok (l[x / 3]?.getD .zero) (by rw [List.getElem?_eq_getElem hi]; exact List.getElem_mem hi)
  refine ⟨h.1, h.2.1, h.2.2, ?_⟩
  unfold shP
  generalize l[x / 3]?.getD .zero = s at *
  have hl := h.1.len
  have h3 : x % 3 < s.locs.length := by rw [hl]; exact Nat.mod_lt _ (by omega)
  rw [List.getElem?_eq_getElem h3]
  exact h.1.loc _ (List.getElem_mem h3)
theorem Lst.key {l : List StripeM} (L : Lst l) {x y : Nat} (hx : x < 3 * l.length) (hy : y < 3 * l.length) (h1 : (shE l x).1 = (shE l y).1) (h2 : (shE l x).2.1 = (shE l y).2.1) : x = y := by
  have e1 := L.ids (x / 3) (y / 3) (by omega) (by omega) h1
  have e2 : ((x % 3 : Nat) : Int) = ((y % 3 : Nat) : Int) := h2
  omega
theorem PC.step {l : List StripeM} (L : Lst l) {mp : PoolM} {a : Nat} (h : PC l mp a) (ha : a < 3 * l.length) : ∃ mp', mp.store (shP l a) (l[a / 3]?.getD .zero).id ((a % 3 : Nat) : Int) [] = (0, mp') ∧ PC l mp' (a + 1) := by
  obtain ⟨_, i0, i1, p0, p1⟩ := L.at ha
  obtain ⟨j, hj⟩ : ∃ j : Nat, shP l a = j := ⟨(shP l a).toNat, by omega⟩
  obtain ⟨d, hd, hE, hlo⟩ := h.all j (by omega)
  have hnk : NoKey (ED l j a) (l[a / 3]?.getD .zero).id ((a % 3 : Nat) : Int) := by
    rintro e he ⟨k1, k2⟩
    obtain ⟨x, hx, _, rfl⟩ := (mem_ED l j a e).1 he
    have := L.key (by omega) ha k1 k2
    omega
  have hn := L.n
  have hcl := ED_len l j a
  obtain ⟨d', s1, s2, s3⟩ := store_at (bs := []) hd hE h.up hnk (by omega) ⟨i0, by omega, by simp⟩
  rw [hj]
  refine ⟨_, s1, ⟨h.up, by simp [h.len], fun j' hj' => ?_⟩⟩
  by_cases e : j = j'
  · subst e
    refine ⟨d', list_set hd d', ?_, by omega⟩
    show Ent 30 (if shP l a = (j : Int) then _ else _) d'
    rw [if_pos hj]; exact s2
  · obtain ⟨d2, g1, g2, g3⟩ := h.all j' hj'
    refine ⟨d2, by show (mp.list.set j d')[j']? = _; rw [list_set_ne e]; exact g1, ?_, by omega⟩
    show Ent 30 (if shP l a = (j' : Int) then _ else _) d2
    rw [if_neg (by rw [hj]; omega)]; exact g2
/-- Each entry stands where its stripe says. -/
theorem Lst.good {l : List StripeM} (L : Lst l) (T : TabM) (hT : ∀ s ∈ l, T.strAt s.id = s) (kept : Int → Int × Int → Bool) (d : Nat) (e : Ent1) (he : e ∈ ED l d (3 * l.length)) : badS T kept d (e.1, e.2.1) = false := by
  obtain ⟨z, hz, hp, rfl⟩ := (mem_ED l d _ e).1 he
  have hzi : z / 3 < l.length := by omega
  have hs := hT (l[z / 3]?.getD .zero) (by rw [List.getElem?_eq_getElem hzi]; exact List.getElem_mem hzi)
  obtain ⟨hok, _⟩ := L.at hz
  have hlen := hok.len
  show badS T kept d ((l[z / 3]?.getD .zero).id, ((z % 3 : Nat) : Int)) = false
  unfold badS homeS
  dsimp only
  rw [hs, Int.toNat_natCast]
  have h3 : ((z % 3 : Nat) : Int) < ((l[z / 3]?.getD .zero).locs.length : Int) := by rw [hlen]; omega
  unfold shP at hp
  rw [decide_eq_true h3, hp, decide_eq_true rfl]
  rfl
theorem held_mem {mp : PoolM} {EE : Nat → List Ent1} (hall : ∀ j, j < 12 → ∃ d, mp.list[j]? = some d ∧ Ent 30 (EE j) d) (d : Nat) (hd : d < 12) : mp.held (d : Int) = (EE d).map fun e => (e.1, e.2.1) := by
  obtain ⟨dm, h1, h2⟩ := hall d hd
  exact held_at h1 h2
/-- Nothing is a stray. -/
theorem PC.clean {l : List StripeM} (L : Lst l) {mp : PoolM} (h : PC l mp (3 * l.length)) (T : TabM) (hT : ∀ s ∈ l, T.strAt s.id = s) (kept : Int → Int × Int → Bool) : strayR mp T kept = .tuple #[.int .i64 0, .int .i64 0, .int .i64 0, .bool false] := by
  refine stray_none mp T kept fun y hy => ?_
  unfold allHeld at hy
  obtain ⟨d, hd, hy⟩ := List.mem_flatMap.1 hy
  obtain ⟨x, hx, rfl⟩ := List.mem_map.1 hy
  have hd := List.mem_range.1 hd
  rw [h.len] at hd
  obtain ⟨dm, h1, h2, _⟩ := h.all d hd
  rw [held_at h1 h2] at hx
  obtain ⟨e, he, rfl⟩ := List.mem_map.1 hx
  exact L.good T hT kept d e he
/-- One more, somewhere else, is the one stray. -/
theorem PC.one {l : List StripeM} (L : Lst l) {mp : PoolM} (h : PC l mp (3 * l.length)) (T : TabM) (hT : ∀ s ∈ l, T.strAt s.id = s) (i : Nat) (hi : i < l.length) (kept : Int → Int × Int → Bool) (hk : ∀ d x, kept d x = false) :
    ∃ mp', mp.store (((l[i]?.getD .zero).locs[0]?.getD 0 + 5) % 12) (l[i]?.getD .zero).id 0 [] = (0, mp') ∧ mp'.list.length = 12 ∧ (∀ (d : Nat), ∀ x ∈ mp'.held (d : Int), 0 ≤ x.2 ∧ -1000000000000 ≤ x.1 ∧ x.1 ≤ 1000000000000) ∧
      strayR mp' T kept = .tuple #[.int .i64 (((l[i]?.getD .zero).locs[0]?.getD 0 + 5) % 12), .int .i64 (l[i]?.getD .zero).id, .int .i64 0, .bool true] := by
  have hx3 : 3 * i < 3 * l.length := by omega
  obtain ⟨hok, i0, i1, p0, p1⟩ := L.at hx3
  have hdiv : 3 * i / 3 = i := by omega
  have hmod : 3 * i % 3 = 0 := by omega
  have hsp : shP l (3 * i) = (l[i]?.getD .zero).locs[0]?.getD 0 := by unfold shP; rw [hdiv, hmod]
  rw [hsp] at p0 p1
  rw [hdiv] at hok i0 i1
  have hs := hT (l[i]?.getD .zero) (by rw [List.getElem?_eq_getElem hi]; exact List.getElem_mem hi)
  have hlen := hok.len
  obtain ⟨x0, hx0⟩ : ∃ x, (l[i]?.getD .zero).locs[0]?.getD 0 = x := ⟨_, rfl⟩
  rw [hx0] at p0 p1 hsp ⊢
  obtain ⟨D, hD⟩ : ∃ D : Nat, (x0 + 5) % 12 = D := ⟨((x0 + 5) % 12).toNat, by omega⟩
  have hD12 : D < 12 := by omega
  rw [hD]
  obtain ⟨d, hd, hE, _⟩ := h.all D hD12
  have hnk : NoKey (ED l D (3 * l.length)) (l[i]?.getD .zero).id 0 := by
    rintro e he ⟨k1, k2⟩
    obtain ⟨x, hx, hp, rfl⟩ := (mem_ED l D _ e).1 he
    have e1 := L.ids (x / 3) i (by omega) hi k1
    have e2 : ((x % 3 : Nat) : Int) = 0 := k2
    obtain rfl : x = 3 * i := by omega
    rw [hsp] at hp
    omega
  have hn := L.n
  have hcl := ED_len l D (3 * l.length)
  obtain ⟨d', s1, s2, _⟩ := store_at (bs := []) hd hE h.up hnk (by omega) ⟨i0, by omega, by simp⟩
  have hall : ∀ j, j < 12 → ∃ dd, (mp.list.set D d')[j]? = some dd ∧ Ent 30 (if j = D then ED l D (3 * l.length) ++ [((l[i]?.getD .zero).id, 0, [])] else ED l j (3 * l.length)) dd := by
    intro j hj
    by_cases e : D = j
    · subst e
      refine ⟨d', list_set hd d', ?_⟩
      rw [if_pos rfl]; exact s2
    · obtain ⟨d2, g1, g2, _⟩ := h.all j hj
      refine ⟨d2, by rw [list_set_ne e]; exact g1, ?_⟩
      rw [if_neg (fun x => e x.symm)]; exact g2
  have hheld : ∀ j : Nat, j < 12 → PoolM.held { mp with list := mp.list.set D d' } (j : Int) = (if j = D then ED l D (3 * l.length) ++ [((l[i]?.getD .zero).id, 0, [])] else ED l j (3 * l.length)).map fun e => (e.1, e.2.1) := by
    intro j hj
    obtain ⟨dd, h1, h2⟩ := hall j hj
    exact held_at h1 h2
  have hl12 : (mp.list.set D d').length = 12 := by simp [h.len]
  refine ⟨_, s1, hl12, fun j x hx => ?_, ?_⟩
  · by_cases hj : j < 12
    · rw [hheld j hj] at hx
      obtain ⟨e, he, rfl⟩ := List.mem_map.1 hx
      have : e ∈ ED l j (3 * l.length) ∨ e = ((l[i]?.getD .zero).id, 0, []) := by
        by_cases hjD : j = D
        · rw [if_pos hjD] at he
          rcases List.mem_append.1 he with he | he
          · exact .inl (hjD ▸ he)
          · exact .inr (List.mem_singleton.1 he)
        · rw [if_neg hjD] at he; exact .inl he
      rcases this with he | rfl
      · obtain ⟨z, hz, _, rfl⟩ := (mem_ED l j _ e).1 he
        obtain ⟨_, a, b, _⟩ := L.at hz
        show 0 ≤ ((z % 3 : Nat) : Int) ∧ -1000000000000 ≤ (l[z / 3]?.getD .zero).id ∧ (l[z / 3]?.getD .zero).id ≤ 1000000000000
        omega
      · show (0 : Int) ≤ 0 ∧ -1000000000000 ≤ (l[i]?.getD .zero).id ∧ (l[i]?.getD .zero).id ≤ 1000000000000
        omega
    · have hdr : PoolM.drive? { mp with list := mp.list.set D d' } (j : Int) = none := by
        unfold PoolM.drive?
        rw [if_pos (by omega), Int.toNat_natCast]
        exact List.getElem?_eq_none (by rw [hl12]; omega)
      have hc : PoolM.capN { mp with list := mp.list.set D d' } (j : Int) = 0 := by unfold PoolM.capN; rw [hdr]
      unfold PoolM.held at hx
      rw [hc] at hx
      simp [PoolM.heldTo] at hx
  · have hj : (ED l D (3 * l.length)).length < (PoolM.held { mp with list := mp.list.set D d' } (D : Int)).length := by
      rw [hheld D hD12, if_pos rfl]; simp
    have hge : (PoolM.held { mp with list := mp.list.set D d' } (D : Int))[(ED l D (3 * l.length)).length]?.getD (0, 0) = ((l[i]?.getD .zero).id, 0) := by
      rw [hheld D hD12, if_pos rfl]; simp
    have hit := stray_hit { mp with list := mp.list.set D d' } T kept D (ED l D (3 * l.length)).length (by rw [hl12]; exact hD12) hj ?_ ?_ ?_
    · rw [hge] at hit; exact hit
    · intro y hy
      unfold allHeld at hy
      obtain ⟨j, hj', hy⟩ := List.mem_flatMap.1 hy
      obtain ⟨x, hx, rfl⟩ := List.mem_map.1 hy
      have hj' := List.mem_range.1 hj'
      rw [hheld j (by omega), if_neg (by omega)] at hx
      obtain ⟨e, he, rfl⟩ := List.mem_map.1 hx
      exact L.good T hT kept j e he
    · intro j hj'
      rw [hheld D hD12, if_pos rfl, List.map_append, List.getElem?_append_left (by simpa using hj'), List.getElem?_map, List.getElem?_eq_getElem hj']
      exact L.good T hT kept D _ (List.getElem_mem hj')
    · rw [hge]
      unfold badS homeS
      dsimp only
      rw [hs, hk, show (0 : Int).toNat = 0 from rfl, hx0, decide_eq_false (by omega : ¬ x0 = (D : Int))]
      simp
theorem TabOk.strAt_mem {T : TabM} (h : TabOk T) {s : StripeM} (hs : s ∈ T.all) : T.strAt s.id = s := by
  obtain ⟨o, ho, hso⟩ := List.mem_flatMap.1 hs
  obtain ⟨i, hi, rfl⟩ := List.getElem_of_mem hso
  obtain ⟨e, _⟩ := (h.objs o ho).ids i _ (List.getElem?_eq_getElem hi)
  have hlen := (h.objs o ho).few h.k.1
  unfold TabM.strAt
  rw [h.found ho (by unfold hits; rw [e]; simp; omega)]
  dsimp only
  rw [e, show (16 * o.id + (i : Int) - 16 * o.id).toNat = i by omega, List.getElem?_eq_getElem hi]
  rfl
theorem lst_of (st ts : List Int) (n : Nat) (hn : 1 ≤ n ∧ n ≤ 8) (h0 : ∀ i, i < n → 0 ≤ ts[i]?.getD 0) (hl : st.length ≤ 12) (h3 : 3 ≤ (insL st).length) {l : List StripeM} (hp : l.Perm (tabI st ts n).all) : Lst l ∧ l.length = n := by
  have hp2 := hp.trans (tabI_all st ts n (by omega))
  have hlen : l.length = n := by rw [hp2.length_eq]; simp
  have hnd : (l.map (·.id)).Nodup := by
    refine ((hp2.map (·.id)).nodup_iff).2 ?_
    rw [List.map_map]
    refine List.Pairwise.map _ (fun a b (hab : a ≠ b) => ?_) (List.nodup_range (n := n))
    show 16 * ((a : Int) + 1) ≠ 16 * ((b : Int) + 1)
    omega
  refine ⟨⟨by omega, fun s hs => ?_, fun i j hi hj e => ?_⟩, hlen⟩
  · obtain ⟨i, hi, rfl⟩ := List.mem_map.1 (hp2.mem_iff.1 hs)
    have hi := List.mem_range.1 hi
    refine ⟨strI_ok st _ i (h0 i hi) hl h3, ?_, ?_⟩
    · show 0 ≤ 16 * ((i : Int) + 1); omega
    · show 16 * ((i : Int) + 1) ≤ 1000; omega
  · rw [List.getElem?_eq_getElem hi, List.getElem?_eq_getElem hj] at e
    have key := List.pairwise_iff_getElem.1 hnd
    by_cases hij : i = j
    · exact hij
    · rcases Nat.lt_or_gt_of_ne hij with h | h
      · exact absurd (by rw [List.getElem_map, List.getElem_map]; simpa using e) (key i j (by simpa using hi) (by simpa using hj) h)
      · exact absurd (by rw [List.getElem_map, List.getElem_map]; simpa using e.symm) (key j i (by simpa using hj) (by simpa using hi) h)
theorem PC.held {l : List StripeM} {mp : PoolM} {a : Nat} (h : PC l mp a) (L : Lst l) (ha : a ≤ 3 * l.length := by omega) : ∀ (d : Nat), ∀ x ∈ mp.held (d : Int), 0 ≤ x.2 ∧ -1000000000000 ≤ x.1 ∧ x.1 ≤ 1000000000000 := by
  intro j x hx
  by_cases hj : j < 12
  · obtain ⟨dd, h1, h2, _⟩ := h.all j hj
    rw [held_at h1 h2] at hx
    obtain ⟨e, he, rfl⟩ := List.mem_map.1 hx
    obtain ⟨z, hz, _, rfl⟩ := (mem_ED l j _ e).1 he
    obtain ⟨_, a, b, _⟩ := L.at (x := z) (by omega)
    show 0 ≤ ((z % 3 : Nat) : Int) ∧ -1000000000000 ≤ (l[z / 3]?.getD .zero).id ∧ (l[z / 3]?.getD .zero).id ≤ 1000000000000
    omega
  · have hdr : mp.drive? (j : Int) = none := by
      unfold PoolM.drive?
      rw [if_pos (by omega), Int.toNat_natCast]
      exact List.getElem?_eq_none (by rw [h.len]; omega)
    have hc : mp.capN (j : Int) = 0 := by unfold PoolM.capN; rw [hdr]
    unfold PoolM.held at hx
    rw [hc] at hx
    simp [PoolM.heldTo] at hx
theorem TabOk.strAt_len {T : TabM} (h : TabOk T) (id : Int) : (T.strAt id).locs.length ≤ 1000 := by
  unfold TabM.strAt
  cases hf : T.findS id with
  | none => simp [StripeM.zero]
  | some o =>
    dsimp only
    have ho : o ∈ T.objs := List.mem_of_find?_eq_some hf
    cases hg : o.strs[(id - 16 * o.id).toNat]? with
    | none => simp [StripeM.zero]
    | some s =>
      have := (h.strs ho).2 s (List.mem_of_getElem? hg)
      simp; omega
end Go.Proofs.YtblddkjdglliaaaGreatDoor
namespace Go.Proofs.YtblddkjdglliaaaGreatDoor
open Go.RowKit Go.Maps

def pC (k : Nat) : PoolM := ⟨List.replicate k (newD 30), -1, false⟩
theorem add_C (c : Nat) (h : c < 12) : ((pC c).add 30).2.2 = pC (c + 1) := by
  unfold PoolM.add pC
  rw [if_neg (by simp; omega)]
  simp [List.replicate_succ']
theorem pc_zero (l : List StripeM) : PC l (pC 12) 0 := by
  refine ⟨⟨rfl, rfl⟩, by simp [pC], fun j hj => ⟨newD 30, ?_, newD_ent 30 (by omega), by simp [newD]⟩⟩
  show (List.replicate 12 (newD 30))[j]? = _
  rw [List.getElem?_replicate, if_pos hj]
/-- A pool, a table and stripes beside them. -/
structure PT (w0 w : World) (p : Nat) (L : Lay) (mp : PoolM) (b mb : Nat) (T : TabM) (v : Value) (l : List StripeM) : Prop where
  below : Below w0.heap.size w0 w
  pool : IsPool w p L mp
  newP : ∀ k, PFp p L k → w0.heap.size ≤ k
  tab : IsTab w b mb T
  str : HS w 0 v l
theorem PT.next {w0 w w' : World} {p : Nat} {L L' : Lay} {mp mp' : PoolM} {b mb : Nat} {T : TabM} {v : Value} {l : List StripeM} (h : PT w0 w p L mp b mb T v l) (hP : IsPool w' p L' mp') (hs : PStep p w w' L L') : PT w0 w' p L' mp' b mb T v l := by
  have hty : ∀ (k : Nat) (cur : Array Value) (t : TypeId) (fr : Nat × Nat), t = 3 ∨ t = 36 → PFp p L k → w.heap[k]? ≠ some (.cells cur t fr) := by
    intro k cur t fr ht hk e
    obtain ⟨cur', e', g1, h2⟩ := PFp_ty h.pool hk
    rw [e] at g1; cases g1
    rcases ht with rfl | rfl <;> rcases h2 with h2 | h2 | h2 | h2 | h2 <;> cases h2
  refine ⟨h.below.trans (hs.chg.to_below h.below.size h.newP), hP, fun k hk => ?_, ?_, h.str.chg hs.chg hty⟩
  · rcases hs.fp k hk with h1 | h1
    · exact h.newP k h1
    · exact Nat.le_trans h.below.size h1
  · obtain ⟨stv, n, E, hE⟩ := h.tab
    refine ⟨stv, n, E, hE.chg hs.chg (fun hk => ?_) (fun hk => ?_) hty⟩
    · obtain ⟨cur', e', g1, h2⟩ := PFp_ty h.pool hk
      rw [hE.blk] at g1; cases g1
      rcases h2 with h2 | h2 | h2 | h2 | h2 <;> cases h2
    · obtain ⟨cur', e', g1, h2⟩ := PFp_ty h.pool hk
      obtain ⟨es, clock, hb, _⟩ := hE.own
      rw [hb] at g1; cases g1
theorem PT.blk {w0 w w' : World} {p : Nat} {L L' : Lay} {mp : PoolM} {b mb : Nat} {T : TabM} {v : Value} {l : List StripeM} (h : PT w0 w p L mp b mb T v l) (hs : PStep p w w' L L') {k : Nat} {cur : Array Value} {t : TypeId} {fr : Nat × Nat} (hb : w.heap[k]? = some (.cells cur t fr)) (ht : t = 3 ∨ t = 36) : w'.heap[k]? = some (.cells cur t fr) := by
  refine hs.chg.blk hb fun hk => ?_
  obtain ⟨cur', e', g1, h2⟩ := PFp_ty h.pool hk
  rw [hb] at g1; cases g1
  rcases ht with rfl | rfl <;> rcases h2 with h2 | h2 | h2 | h2 | h2 <;> cases h2
theorem PT.on {w0 w w' : World} {p : Nat} {L : Lay} {mp : PoolM} {b mb : Nat} {T : TabM} {v : Value} {l : List StripeM} (h : PT w0 w p L mp b mb T v l) (hB : Below w.heap.size w w') : PT w0 w' p L mp b mb T v l :=
  h.next (h.pool.below hB) (PStep.of_below hB)
set_option maxRecDepth 100000 in
theorem kept_nil (f : Value) (c : Nat) (w : World) : Calls Tryz.prog 117 #[.slice none 0 c, f] w fun e w' => e = .returned (.int .i64 (-1)) ∧ w = w' := by
  go_enter Tryz.func117, Tryz.ntmps117
  go_wp2
  go_loop [8] (fun i => i = .int .i64 0) (fun _ => 0)
  case atStart => rfl
  case round =>
    subst hrel
    go_wp2
    go_ret
    exact ⟨rfl, rfl⟩
set_option maxRecDepth 100000 in
theorem contains_nil (f : Fn) (x y : Array Value) (c : Nat) (w : World) : Calls Tryz.prog 79 #[.slice none 0 c, .func f x y] w fun e w' => e = .returned (.bool false) ∧ Below w.heap.size w w' := by
  go_enter Tryz.func79, Tryz.ntmps79
  go_wp2_with (go_at_call 117; refine (kept_nil _ _ _).mono ?_; rintro e w' ⟨rfl, rfl⟩)
  go_ret
  exact ⟨rfl, Below.refl _ _⟩

abbrev ones12 : List Int := [1, 1, 1, 1, 1, 1, 1, 1, 1, 1, 1, 1]
theorem ins12 : (insL ones12).length = 12 := by decide
set_option maxRecDepth 100000 in
set_option maxHeartbeats 8000000 in
theorem planClean_walk (A : Option Addr) (n c : Nat) (t : Int) (xs : List Int) (w : World) (hT : Turns w) (ht : 0 ≤ t ∧ t ≤ 255) (hx : Handed w A n xs) :
    Calls Tryz.prog 9 #[.slice A n c, .int .u8 t] w fun e w' => e = .returned (.bool true) ∧ Below w.heap.size w w' := by
  have AN := Lib.hid fun W (hB : Below w.heap.size w W) => answers17_any W (hT.below hB)
  clear hT
  have HX := Lib.hid hx
  clear hx
  by_cases hn0 : n = 0
  · subst hn0
    go_enter Tryz.func9, Tryz.ntmps9
    go_wp2_with (go_at_call 35; refine (AN.out w (Below.refl _ _)).mono ?_; rintro e w' ⟨rfl, hB⟩; replace hB := Lib.hid hB)
    go_ret
    exact ⟨rfl, hB.out⟩
  by_cases hn8 : 8 < n
  · have d1 : decide ((8 : Int) < (n : Int)) = true := decide_eq_true (by omega)
    have d2 : ((n : Int) == 0) = false := by simp; omega
    go_enter Tryz.func9, Tryz.ntmps9
    go_wp2_with (go_at_call 35; refine (AN.out w (Below.refl _ _)).mono ?_; rintro e w' ⟨rfl, hB⟩; replace hB := Lib.hid hB)
    go_ret
    exact ⟨rfl, hB.out⟩
  have hnI : (1 : Int) ≤ n ∧ (n : Int) ≤ 8 := by omega
  have hn : 1 ≤ n ∧ n ≤ 8 := by omega
  have d1 : decide ((8 : Int) < (n : Int)) = false := decide_eq_false (by omega)
  have d2 : ((n : Int) == 0) = false := by simp; omega
  have d3 : ((n : Int) == (n : Int)) = true := by simp
  have h0 : ∀ i, i < n → 0 ≤ xs[i]?.getD 0 := fun i hi => by obtain ⟨_, _, _, h, _⟩ := HX.out.at i hi; exact h
  have TH := Lib.hid fun sv W (hB : Below w.heap.size w W) h1 => there_any sv ones12 xs A n c W h1 (by decide) (by decide) (by rw [ins12]; decide) (HX.out.below hB) hn.2
  have OK := Lib.hid (tabI_ok ones12 xs n (by omega) h0 (by decide) (by decide) (by rw [ins12]; decide))
  have ALL := Lib.hid fun (l : List StripeM) (hp : l.Perm (tabI ones12 xs n).all) => lst_of ones12 xs n hn h0 (by decide) (by rw [ins12]; decide) hp
  have LEN : Hid (1 ≤ (tabI ones12 xs n).all.length ∧ (tabI ones12 xs n).all.length ≤ 12) := Lib.hid (by rw [(tabI_all ones12 xs n (by omega)).length_eq]; simp; omega)
  generalize tabI ones12 xs n = T at *
  clear h0 hn0 hn8
  go_enter Tryz.func9, Tryz.ntmps9
  go_wp2_with fail
  obtain ⟨W1, hW1⟩ : ∃ W, w.alloc (.cells #[.int .i64 1, .int .i64 1, .int .i64 1, .int .i64 1, .int .i64 1, .int .i64 1, .int .i64 1, .int .i64 1, .int .i64 1, .int .i64 1, .int .i64 1, .int .i64 1] 3) = W := ⟨_, rfl⟩
  have hb1 : W1.heap[w.heap.size]? = some (.cells #[.int .i64 1, .int .i64 1, .int .i64 1, .int .i64 1, .int .i64 1, .int .i64 1, .int .i64 1, .int .i64 1, .int .i64 1, .int .i64 1, .int .i64 1, .int .i64 1] 3 (0, 0)) := by rw [← hW1]; exact heap_alloc_new w _
  have hB1 : Below w.heap.size w W1 := by rw [← hW1]; exact (Below.refl _ w).alloc (Nat.le_refl _) _
  rw [hW1]
  clear hW1
  have hH1 : HI W1 (.slice (some ⟨w.heap.size, 0, none⟩) 12 12) ones12 := ⟨_, 12, rfl, Nat.le_refl 12, by decide, fun _ => ⟨_, 0, _, (), rfl, hb1, fun i hi => by
    have hi : i < 12 := hi
    match i, hi with
    | 0, _ => rfl
    | 1, _ => rfl
    | 2, _ => rfl
    | 3, _ => rfl
    | 4, _ => rfl
    | 5, _ => rfl
    | 6, _ => rfl
    | 7, _ => rfl
    | 8, _ => rfl
    | 9, _ => rfl
    | 10, _ => rfl
    | 11, _ => rfl⟩⟩
  refine (TH.out _ W1 hB1 hH1).mono ?_
  rintro e w2 ⟨b, mb, iv, rfl, ⟨IA, ic, rfl⟩, hT2, -, -, hB2⟩
  have hBw2 := hB1.trans (hB2.mono hB1.size)
  replace hT2 := Lib.hid hT2
  replace hBw2 := Lib.hid hBw2
  clear hb1 hH1 hB1 hB2 TH
  go_wp2_with fail
  refine (pnew_any w2).mono ?_
  rintro e w3 ⟨rfl, hP3, hB3⟩
  have hPT0 : PT w w3 w2.heap.size ⟨.slice none 0 0, []⟩ (pC 0) b mb T (.slice none 0 0) [] := by
    refine ⟨hBw2.out.trans (hB3.mono hBw2.out.size), hP3, ?_, hT2.out.below hB3, HS.nil _ _⟩
    intro k hk
    rcases hk with rfl | hk | ⟨x, hx, _⟩
    · exact hBw2.out.size
    · simp [Value.ownBlock] at hk
    · simp at hx
  generalize w2.heap.size = p at *
  replace hPT0 := Lib.hid hPT0
  unfold pptr tblptr
  clear hP3 hB3 hBw2 hT2
  go_wp2_with fail
  go_loopw [8] (fun i wr => ∃ k : Nat, k ≤ 12 ∧ i = .int .i64 k ∧ ∃ L, PT w wr p L (pC k) b mb T (.slice none 0 0) []) (fun i _ => 12 - (intOf i).toNat)
  case atStart => exact ⟨0, by omega, rfl, _, hPT0.out⟩
  case round =>
    obtain ⟨k, hk, rfl, L, hPT⟩ := hrel
    by_cases hlt : k < 12
    · have AD := Lib.hid (padd_any p L (pC k) 30 wr hPT.pool)
      rw [add_C k hlt] at AD
      generalize (PoolM.add (pC k) 30).1 = a1 at *
      generalize (PoolM.add (pC k) 30).2.1 = a2 at *
      replace hPT := Lib.hid hPT
      unfold pptr at AD
      go_wp2_with (go_at_call 19; refine AD.out.mono ?_; rintro e w5 ⟨L5, rfl, hP5, hs5⟩; have hPT5 := Lib.hid (hPT.out.next hP5 hs5); clear hP5 hs5)
      exact ⟨⟨k + 1, by omega, by go_num, L5, hPT5.out⟩, by simp [intOf]; omega⟩
    · obtain rfl : k = 12 := by omega
      have SS := Lib.hid (tstripes_any b mb T wr hPT.tab OK.out LEN.out.1 LEN.out.2)
      replace hPT := Lib.hid hPT
      unfold tblptr at SS
      go_wp2_with fail
      refine SS.out.mono ?_
      rintro e w4 ⟨v, l, rfl, hp, hS, hB4⟩
      obtain ⟨LS, hln⟩ := ALL.out l hp
      have hTs : ∀ s ∈ l, T.strAt s.id = s := fun s hs => OK.out.strAt_mem (hp.mem_iff.1 hs)
      have hPT4 : PT w w4 p L (pC 12) b mb T v l := by
        have h := hPT.out.on hB4
        exact ⟨h.below, h.pool, h.newP, h.tab, hS.mono (Nat.zero_le _)⟩
      obtain ⟨A2, n2, c2, rfl⟩ := hS.shape
      obtain rfl : n2 = n := by rw [hS.cell.1]; exact hln
      replace hPT4 := Lib.hid hPT4
      replace LS := Lib.hid LS
      replace hTs := Lib.hid hTs
      have hpc := Lib.hid (pc_zero l)
      replace hln := Lib.hid hln
      clear hS hB4 hPT SS hp ALL LEN hPT0
      go_wp2_with fail
      go_loopw [10] (fun i wr => ∃ a : Nat, a ≤ n2 ∧ i = .int .i64 a ∧ ∃ L mp, PT w wr p L mp b mb T (.slice A2 n2 c2) l ∧ PC l mp (3 * a)) (fun i _ => n2 - (intOf i).toNat)
      case atStart => exact ⟨0, by omega, rfl, L, _, hPT4.out, hpc.out⟩
      case round =>
        obtain ⟨a, ha, rfl, L, mp, hPT, hPC⟩ := hrel
        by_cases hlt : a < n2
        · replace hPT := Lib.hid hPT
          replace hPC := Lib.hid hPC
          go_wp2_with fail
          go_loopw [11] (fun i wr => ∃ r : Nat, r ≤ 3 ∧ i = .int .i64 r ∧ ∃ L mp, PT w wr p L mp b mb T (.slice A2 n2 c2) l ∧ PC l mp (3 * a + r)) (fun i _ => 3 - (intOf i).toNat)
          case atStart => exact ⟨0, by omega, rfl, L, mp, hPT.out, hPC.out⟩
          case round =>
            obtain ⟨r, hr, rfl, L1, mp1, hPT1, hPC1⟩ := hrel
            by_cases hr3 : r < 3
            · obtain ⟨g, u, rfl, c0, c1, c2, hu⟩ := hPT1.str.get a hlt
              have hx3 : 3 * a + r < 3 * l.length := by rw [hln.out]; omega
              have e1 : (3 * a + r) / 3 = a := by omega
              have e2 : (3 * a + r) % 3 = r := by omega
              obtain ⟨hok, i0, i1, q0, q1⟩ := LS.out.at hx3
              obtain ⟨mp2, s1, s2⟩ := hPC1.step LS.out hx3
              have hsp : shP l (3 * a + r) = (l[a]?.getD .zero).locs[r]?.getD 0 := by unfold shP; rw [e1, e2]
              have hlen := hok.len
              rw [hsp] at q0 q1 s1
              rw [e1] at hok i0 i1 s1 hlen
              rw [e2] at s1
              generalize l[a]?.getD .zero = st at *
              obtain ⟨sid, sep, sl⟩ := st
              dsimp only at c0 c1 hu i0 i1 q0 q1 s1 hlen
              obtain ⟨Au, nu, cu, rfl⟩ := hu.shape
              have hn3 : nu = 3 := by rw [hu.toC.cell.1]; exact hlen
              obtain ⟨A', c', e, _, _, h3⟩ := hu
              simp only [Value.slice.injEq] at e
              obtain ⟨rfl, ee1, ee2⟩ := e
              obtain ⟨bb, o, cur, _, rfl, hbb, hcc⟩ := h3 (by omega)
              have cr : wr.cell? ⟨bb, o + r, none⟩ = some (.int .i64 (sl[r]?.getD 0)) := by rw [cell_of_blk hbb]; exact hcc r (by omega)
              have PS := Lib.hid fun N => pstore_any p L1 mp1 (sl[r]?.getD 0) sid r (.slice none 0 0) [] (wr.drewN N) (hPT1.pool.below (below_drewN' (Below.refl _ wr) N)) (hPC1.room (by omega)) i0 (by omega) (by omega) (by omega) (HB.nil _) (by simp)
              rw [s1] at PS
              have hstep := Lib.hid fun N w5 L5 (hP : IsPool w5 p L5 mp2) (hs : PStep p (wr.drewN N) w5 L1 L5) => (hPT1.on (below_drewN' (Below.refl _ wr) N)).next hP hs
              generalize sl[r]?.getD 0 = y at *
              replace s2 := Lib.hid s2
              have hrI : (0 : Int) ≤ r ∧ (r : Int) < 3 := by omega
              have hanI : (0 : Int) ≤ a ∧ (a : Int) < n2 := by omega
              have hn38 : n2 ≤ 8 := hn.2
              subst hn3
              unfold pptr at PS
              clear ee1 ee2 hPT1 hPC1 s1 hok hx3 hsp hlen hcc h3 hbb hPT hPC hPT4 hpc q0 q1 i0 i1 e1 e2
              go_wp2_with fail
              refine region_quiet_tail 15 (by kernel_rfl) (by kernel_rfl) ?_
              simp only [List.take_succ_cons, List.take_zero, List.drop_succ_cons, List.drop_zero]
              repeat (quiet_step (fail))
              refine wpQuiet_nil ?_
              intro _ hw'
              obtain ⟨nq, hw''⟩ := hw'
              subst hw''
              go_wp2_with (go_at_call 27; refine (PS.out nq).mono ?_; rintro e w5 ⟨L5, rfl, hP5, hs5⟩; have hPT5 := Lib.hid (hstep.out nq w5 L5 hP5 hs5); clear hP5 hs5)
              exact ⟨⟨r + 1, by omega, by go_num, L5, mp2, hPT5.out, s2.out⟩, by simp [intOf]; omega⟩
            · obtain rfl : r = 3 := by omega
              replace hPT1 := Lib.hid hPT1
              replace hPC1 : Hid (PC l mp1 (3 * (a + 1))) := Lib.hid hPC1
              go_wp2
              exact ⟨⟨a + 1, by omega, by go_num, L1, mp1, hPT1.out, hPC1.out⟩, by simp [intOf]; omega⟩
        · obtain rfl : a = n2 := by omega
          replace hPT := Lib.hid hPT
          replace hPC := Lib.hid hPC
          go_wp2_with fail
          have hroom := Lib.hid (hPC.out.room (by omega))
          have hPCn : PC l mp (3 * l.length) := by rw [hln.out]; exact hPC.out
          have hheld : ∀ (d : Nat), ∀ x ∈ mp.held (d : Int), 0 ≤ x.2 ∧ -1000000000000 ≤ x.1 ∧ x.1 ≤ 1000000000000 := hPCn.held LS.out
          have hl12 := hPCn.len
          have hlocs : ∀ id, (T.strAt id).locs.length ≤ 1000 := OK.out.strAt_len
          have S1 := stray_any p L mp b mb T none 0 0 (fun _ _ => false) wr hPT.out.pool hPT.out.tab OK.out (by omega) hheld hlocs (fun W p12 p10 d x _ _ _ _ _ _ => contains_nil _ _ _ 0 W)
          rw [hPCn.clean LS.out T hTs.out] at S1
          unfold pptr tblptr at S1
          replace S1 := Lib.hid S1
          replace hPCn := Lib.hid hPCn
          clear hheld hl12
          go_wp2_with fail
          refine S1.out.mono ?_
          rintro e w6 ⟨rfl, hB6⟩
          have hPT6 := Lib.hid (hPT.out.on hB6)
          clear hB6 S1
          obtain ⟨i, hi1, hi2⟩ : ∃ i : Nat, t % (a : Int) = i ∧ i < a := by
            have h1 := Int.emod_nonneg t (show (a : Int) ≠ 0 by omega)
            have h2 := Int.emod_lt_of_pos t (show (0 : Int) < a by omega)
            exact ⟨(t % (a : Int)).toNat, by omega, by omega⟩
          have hi3 : Int.tmod t (a : Int) = i := by rw [Int.tmod_eq_emod_of_nonneg ht.1]; exact hi1
          have hiI : (0 : Int) ≤ i ∧ (i : Int) < a := by omega
          have hil : i < l.length := by rw [hln.out]; exact hi2
          obtain ⟨g, u, rfl, k0, k1, k2, hu⟩ := hPT6.out.str.get i hi2
          obtain ⟨mp2, s1, l2, hh2, r2⟩ := PC.one LS.out hPCn.out T hTs.out i hil (fun _ _ => false) (fun _ _ => rfl)
          obtain ⟨hok, i0, i1, q0, q1⟩ := LS.out.at (x := 3 * i) (by omega)
          have hsp : shP l (3 * i) = (l[i]?.getD .zero).locs[0]?.getD 0 := by unfold shP; rw [show 3 * i / 3 = i by omega, show 3 * i % 3 = 0 by omega]
          rw [hsp] at q0 q1
          rw [show 3 * i / 3 = i by omega] at hok i0 i1
          have hlen := hok.len
          generalize l[i]?.getD .zero = st at *
          obtain ⟨sid, sep, sl⟩ := st
          dsimp only at k0 k1 hu i0 i1 q0 q1 s1 hlen r2
          obtain ⟨Au, nu, cu, rfl⟩ := hu.shape
          have hn3 : nu = 3 := by rw [hu.toC.cell.1]; exact hlen
          obtain ⟨A', c', e, _, _, h3⟩ := hu
          simp only [Value.slice.injEq] at e
          obtain ⟨rfl, ee1, ee2⟩ := e
          obtain ⟨bb, o, cur, _, rfl, hbb, hcc⟩ := h3 (by omega)
          have cr : w6.cell? ⟨bb, o, none⟩ = some (.int .i64 (sl[0]?.getD 0)) := by rw [cell_of_blk hbb]; exact hcc 0 (by omega)
          have hbl := blk_lt hbb
          generalize sl[0]?.getD 0 = y at *
          have PS := Lib.hid fun W (hB : Below w6.heap.size w6 W) => pstore_any p L mp ((y + 5) % 12) sid 0 (.slice none 0 0) [] W (hPT6.out.pool.below hB) hroom.out i0 (by omega) (by omega) (by omega) (HB.nil _) (by simp)
          rw [s1] at PS
          unfold pptr at PS
          have hl7 : mp2.list.length ≤ 1000 := by omega
          have S2 := Lib.hid fun W L5 (hPT : PT w W p L5 mp2 b mb T (.slice (some ⟨g, 0, none⟩) a c2) l) => stray_any p L5 mp2 b mb T none 0 0 (fun _ _ => false) W hPT.pool hPT.tab OK.out hl7 hh2 hlocs (fun W p12 p10 d x _ _ _ _ _ _ => contains_nil _ _ _ 0 W)
          rw [r2] at S2
          unfold pptr tblptr at S2
          replace hlocs := Lib.hid hlocs
          subst hn3
          replace hbb := Lib.hid hbb
          clear ee1 ee2 hcc h3 s1 l2 hh2 r2 hok hlen hsp hPT hPC hPT4 hpc hl7
          go_wp2_with fail
          obtain ⟨q, hq⟩ : ∃ q, w6.heap.size = q := ⟨_, rfl⟩
          obtain ⟨W7, hW7⟩ : ∃ W, w6.alloc (.cells #[.int .i64 sid, .int .i64 sep, .slice (some ⟨bb, o, none⟩) 3 cu] 36) = W := ⟨_, rfl⟩
          have hb7 : W7.heap[q]? = some (.cells #[.int .i64 sid, .int .i64 sep, .slice (some ⟨bb, o, none⟩) 3 cu] 36 (0, 0)) := by rw [← hW7, ← hq]; exact heap_alloc_new w6 _
          have hB7 : Below w6.heap.size w6 W7 := by rw [← hW7]; exact (Below.refl _ _).alloc (Nat.le_refl _) _
          rw [hW7, hq]
          have hbb7 := Lib.hid (below_blk hB7 hbb.out)
          have hPT7 := hPT6.out.on hB7
          have x0 : W7.cell? ⟨q, 0, none⟩ = some (.int .i64 sid) := by rw [cell_of_blk hb7]; rfl
          have x2 : W7.cell? ⟨q, 2, none⟩ = some (.slice (some ⟨bb, o, none⟩) 3 cu) := by rw [cell_of_blk hb7]; rfl
          have xr : W7.cell? ⟨bb, o, none⟩ = some (.int .i64 y) := (hB7.cell (p := ⟨bb, o, none⟩) hbl).trans cr
          have PS7 := Lib.hid fun N => PS.out (W7.drewN N) (hB7.trans (below_drewN' (Below.refl _ W7) N |>.mono hB7.size))
          have hfin := Lib.hid fun N w8 L8 (hP : IsPool w8 p L8 mp2) (hs : PStep p (W7.drewN N) w8 L L8) =>
            (show PT w w8 p L8 mp2 b mb T (.slice (some ⟨g, 0, none⟩) a c2) l ∧ w8.cell? ⟨q, 0, none⟩ = some (.int .i64 sid) ∧ w8.cell? ⟨q, 2, none⟩ = some (.slice (some ⟨bb, o, none⟩) 3 cu) ∧ w8.cell? ⟨bb, o, none⟩ = some (.int .i64 y) ∧ q < w8.heap.size ∧ bb < w8.heap.size from by
              have hPTN := hPT7.on (below_drewN' (Below.refl _ W7) N)
              have g1 := hPTN.blk hs (k := q) (show (W7.drewN N).heap[q]? = _ from hb7) (.inr rfl)
              have g2 := hPTN.blk hs (k := bb) (show (W7.drewN N).heap[bb]? = _ from hbb7.out) (.inl rfl)
              refine ⟨hPTN.next hP hs, by rw [cell_of_blk g1]; rfl, by rw [cell_of_blk g1]; rfl, ?_, blk_lt g1, blk_lt g2⟩
              have h1 := cell_of_blk hbb7.out o
              rw [xr] at h1
              rw [cell_of_blk g2, ← h1])
          clear hW7 hb7 hB7 hPT7 PS cr hbl hPT6 hbb hq k0 k1 k2
          refine region_quiet_tail 9 (by kernel_rfl) (by kernel_rfl) ?_
          simp only [List.take_succ_cons, List.take_zero, List.drop_succ_cons, List.drop_zero]
          repeat (quiet_step (fail))
          refine wpQuiet_nil ?_
          intro _ hw'
          obtain ⟨nq, hw''⟩ := hw'
          subst hw''
          go_wp2_with fail
          refine (PS7.out nq).mono ?_
          rintro e w8 ⟨L8, rfl, hP8, hs8⟩
          obtain ⟨hPT8, z0, z2, zr, hq8, hbb8⟩ := hfin.out nq w8 L8 hP8 hs8
          have S28 := Lib.hid (S2.out w8 L8 hPT8)
          have hB8 := Lib.hid hPT8.below
          clear hP8 hs8 hPT8 S2 PS7 hfin x0 x2 xr hbb7
          go_wp2_with fail
          refine S28.out.mono ?_
          rintro e w9 ⟨rfl, hB9⟩
          have y0 : w9.cell? ⟨q, 0, none⟩ = some (.int .i64 sid) := (hB9.cell (p := ⟨q, 0, none⟩) hq8).trans z0
          have y2 : w9.cell? ⟨q, 2, none⟩ = some (.slice (some ⟨bb, o, none⟩) 3 cu) := (hB9.cell (p := ⟨q, 2, none⟩) hq8).trans z2
          have yr : w9.cell? ⟨bb, o, none⟩ = some (.int .i64 y) := (hB9.cell (p := ⟨bb, o, none⟩) hbb8).trans zr
          have hq9 : q < w9.heap.size := Nat.lt_of_lt_of_le hq8 hB9.size
          have hbb9 : bb < w9.heap.size := Nat.lt_of_lt_of_le hbb8 hB9.size
          have hBw9 := hB8.out.trans (hB9.mono hB8.out.size)
          have AN9 := Lib.hid (AN.out w9 hBw9)
          replace hBw9 := Lib.hid hBw9
          clear z0 z2 zr hq8 hbb8 hB9 hB8 S28 AN
          go_wp2_with fail
          refine AN9.out.mono ?_
          rintro e w10 ⟨rfl, hB10⟩
          have v0 : w10.cell? ⟨q, 0, none⟩ = some (.int .i64 sid) := (hB10.cell (p := ⟨q, 0, none⟩) hq9).trans y0
          have v2 : w10.cell? ⟨q, 2, none⟩ = some (.slice (some ⟨bb, o, none⟩) 3 cu) := (hB10.cell (p := ⟨q, 2, none⟩) hq9).trans y2
          have vr : w10.cell? ⟨bb, o, none⟩ = some (.int .i64 y) := (hB10.cell (p := ⟨bb, o, none⟩) hbb9).trans yr
          have hBf := Lib.hid (hBw9.out.trans (hB10.mono hBw9.out.size))
          clear y0 y2 yr hq9 hbb9 hB10 AN9
          go_wp2
          go_ret
          exact ⟨rfl, hBf.out⟩
end Go.Proofs.YtblddkjdglliaaaGreatDoor
