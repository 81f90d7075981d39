/- Contracts: Table.Keys (a permutation of the keys), slices.Clip at strings. Condition: a table as IsTab says. | Stripes as rows of a memory; contract: slices.SortFunc at stripes (at most 12), by the shelf. | Contract: Table.Stripes: a permutation of the objects' stripes. Conditions: a table as IsTab and TabOk say, of 1 to 12 stripes. | Contract: Table.Stripe. Conditions: a table as IsTab and TabOk say. -/
import Derived.Test.YtblddkjdglliaaaGreatDoorTable
import Derived.Test.YtblddkjdglliaaaGreatDoorShelfI
import Derived.Test.YtblddkjdglliaaaGreatDoorSort
import Derived.Test.YtblddkjdglliaaaGreatDoorShelfT
namespace Go.Proofs.YtblddkjdglliaaaGreatDoor
open Go.RowKit Go.Maps

set_option maxRecDepth 100000 in
theorem clip_str (A : Option Addr) (n c : Nat) (w : World) (h : n ≤ c) :
    Calls Tryz.prog 111 #[.slice A n c] w fun e w' => e = .returned (.slice A n n) ∧ w = w' := by
  cases A
  all_goals
    go_enter Tryz.func111, Tryz.ntmps111
    go_wp2
    go_ret
    exact ⟨rfl, rfl⟩
/-- The slice v reads as these strings. -/
def HStr (w : World) (v : Value) (ks : List ByteArray) : Prop :=
  ∃ A c, v = .slice A ks.length c ∧ (0 < ks.length → ∃ g cur fr, A = some ⟨g, 0, none⟩ ∧ w.heap[g]? = some (.cells cur 9 fr) ∧ ∀ i, i < ks.length → cur[i]? = some (.string (ks[i]?.getD ByteArray.empty)))
theorem HStr.below {w w' : World} {v : Value} {ks : List ByteArray} (h : HStr w v ks) (hb : Below w.heap.size w w') : HStr w' v ks := by
  obtain ⟨A, c, e, h⟩ := h
  refine ⟨A, c, e, fun hp => ?_⟩
  obtain ⟨g, cur, fr, e1, h1, h2⟩ := h hp
  exact ⟨g, cur, fr, e1, below_blk hb h1, h2⟩
def byt (x : List UInt8) : ByteArray := ⟨x.toArray⟩
theorem encStr_byt (x : List UInt8) : encStr x = .string (byt x) := rfl
theorem keys_of {E : EL} {ss : List (List UInt8)} (h : ss.Perm (strKeys (dat E))) : (ss.map byt).Perm (E.map fun p => p.1.key) := by
  have h1 := h.map byt
  refine h1.trans ?_
  unfold dat strKeys
  simp only [List.map_map]
  refine List.Perm.of_eq (List.map_congr_left fun p _ => ?_)
  show byt (strOf (keyLit p.1.key)) = p.1.key
  rfl

set_option maxRecDepth 100000 in
set_option maxHeartbeats 1000000 in
theorem tkeys_any (b mb : Nat) (T : TabM) (w : World) (h : IsTab w b mb T) :
    Calls Tryz.prog 70 #[tblptr b] w fun e w' => ∃ v ks, e = .returned v ∧ ks.Perm (T.objs.map (·.key)) ∧ HStr w' v ks ∧ Below w.heap.size w w' := by
  obtain ⟨stv, n, E, h⟩ := h
  have c2 : w.cell? ⟨b, 2, none⟩ = some (.map (some mb)) := by rw [cell_of_blk h.blk]; rfl
  have hown := own_tight h.own
  have hsz : Maps.size (dat E) ≤ 1000000 := by rw [size_dat]; exact Nat.le_trans (by have := h.own.size_le; rw [size_dat] at this; exact this) h.few
  have hE : E.map (fun p => p.1.key) = T.objs.map (·.key) := by rw [← h.objs, List.map_map]; rfl
  have SK := Tryz.slices_Sorted_keys_112_113 mb E.length (dat E) objR w hown (by unfold maxLen; omega) (by omega)
  replace SK := Lib.hid SK
  have HE := Lib.hid hE
  clear h hown hE hsz
  unfold tblptr
  refine (callsIn_wide (n := 6)).1 ?_
  have hfK : Fence.wide.fn 113 := trivial
  have hfS : Fence.wide.fn 112 := trivial
  have hfC : Fence.wide.fn 111 := trivial
  refine callsIn_of_wp Tryz.func70 rfl trivial ?_ rfl
  simp only [Tryz.ntmps70, List.size_toArray, List.length_cons, List.length_nil, Nat.reduceAdd, Nat.reduceSub, Array.replicate_succ, Array.replicate_zero, List.push_toArray, List.append_toArray, List.nil_append, List.cons_append]
  gi_wp2_with (first
    | (gi_at_call 113; refine (Tryz.maps_Keys_113 _ _).mono ?_; rintro e w' ⟨rfl, rfl⟩)
    | fail)
  refine SK.out.mono ?_
  rintro e w1 ⟨v, ss, rfl, hperm, hrow, -, hB1⟩
  have hB : Below w.heap.size w w1 := ((Below.refl _ w).alloc (Nat.le_refl _) (.cells #[.map (some mb)] 128)).trans (hB1.mono (by simp))
  obtain ⟨ks, hks⟩ : ∃ ks, (ss.mergeSort fun x y => decide (x ≤ y)).map byt = ks := ⟨_, rfl⟩
  have hpk : ks.Perm (T.objs.map (·.key)) := by
    rw [← HE.out, ← hks]
    exact ((List.mergeSort_perm ss _).map byt).trans (keys_of hperm)
  have hkl : ss.length = ks.length := by rw [← hks, List.length_map, List.length_mergeSort]
  have henc : (ss.mergeSort fun x y => decide (x ≤ y)).map encStr = ks.map Value.string := by
    rw [← hks, List.map_map]; rfl
  rw [hkl, henc] at hrow
  clear hperm hks hkl henc hB1
  obtain ⟨A, c, rfl, hcl, _⟩ := own_shape hrow
  have hH : HStr w1 (.slice A ks.length ks.length) ks := by
    refine ⟨A, ks.length, rfl, fun hp => ?_⟩
    obtain ⟨g, cur, rfl, _, hge, _, hb, hcs, htk, hcell⟩ := own_pos hrow hp
    refine ⟨g, cur, (0, 0), rfl, hb, fun i hi => ?_⟩
    have : (cur.toList.take (ks.length * 1))[i]? = some (.string (ks[i]?.getD ByteArray.empty)) := by
      rw [htk, List.getElem?_map, List.getElem?_eq_getElem hi]; rfl
    rw [List.getElem?_take, if_pos (by omega)] at this
    simpa using this
  replace hH := Lib.hid hH
  replace hB := Lib.hid hB
  replace hpk := Lib.hid hpk
  clear hrow SK HE
  gi_wp2_with (gi_at_call 111; refine (callsIn_wide.2 (clip_str _ _ _ _ hcl)).mono ?_; rintro e w' ⟨rfl, rfl⟩)
  go_ret
  exact ⟨_, ks, rfl, hpk.out, hH.out, hB.out⟩
end Go.Proofs.YtblddkjdglliaaaGreatDoor
namespace Go.Proofs.YtblddkjdglliaaaGreatDoor
open Go.RowKit Go.Sort

/-- A stripe as it lies: its places' slice, and its places. -/
structure RS where
  id : Int
  ep : Int
  A : Option Addr
  n : Nat
  c : Nat
  locs : List Int
instance : Inhabited RS := ⟨⟨0, 0, none, 0, 0, []⟩⟩
def RS.v (x : RS) : Value := .slice x.A x.n x.c
def encRS (x : RS) : List Value := [.int .i64 x.id, .int .i64 x.ep, x.v]
def RS.m (x : RS) : StripeM := ⟨x.id, x.ep, x.locs⟩
def GoodRS (w : World) (B : Nat) (x : RS) : Prop := HI w x.v x.locs ∧ FreshV B x.v
theorem GoodRS.below {w w' : World} {B : Nat} {x : RS} (h : GoodRS w B x) (hb : Below w.heap.size w w') : GoodRS w' B x := ⟨h.1.below hb, h.2⟩
theorem GoodRS.mono {w : World} {B B' : Nat} {x : RS} (h : GoodRS w B x) (hb : B' ≤ B) : GoodRS w B' x := ⟨h.1, h.2.mono hb⟩
theorem exists_list {α : Type} {P : Nat → α → Prop} : ∀ n, (∀ i, i < n → ∃ x, P i x) → ∃ l : List α, l.length = n ∧ ∀ i x, l[i]? = some x → P i x
  | 0, _ => ⟨[], rfl, by simp⟩
  | n + 1, h => by
    obtain ⟨l, hl, hp⟩ := exists_list n fun i hi => h i (by omega)
    obtain ⟨x, hx⟩ := h n (by omega)
    refine ⟨l ++ [x], by simp [hl], fun i y hy => ?_⟩
    by_cases hi : i < n
    · rw [List.getElem?_append_left (by omega)] at hy
      exact hp i y hy
    · have hlt := (List.getElem?_eq_some_iff.1 hy).1
      simp only [List.length_append, List.length_singleton] at hlt
      obtain rfl : i = n := by omega
      rw [← hl] at hy
      simp only [List.getElem?_concat_length, Option.some.injEq] at hy
      rw [← hy]; exact hx
theorem flat_len (l : List RS) : (l.flatMap encRS).length = l.length * 3 := by
  induction l with
  | nil => rfl
  | cons a r ih => simp [List.flatMap_cons, ih, encRS]; omega
theorem flat_get (l : List RS) (i : Nat) (hi : i < l.length) :
    (l.flatMap encRS)[3 * i]? = some (.int .i64 (l[i]?.getD default).id) ∧ (l.flatMap encRS)[3 * i + 1]? = some (.int .i64 (l[i]?.getD default).ep) ∧ (l.flatMap encRS)[3 * i + 2]? = some (l[i]?.getD default).v := by
  induction l generalizing i with
  | nil => simp at hi
  | cons s l ih =>
    cases i with
    | zero => simp [encRS, List.flatMap_cons]
    | succ i =>
      have := ih i (by simpa using hi)
      simpa [List.flatMap_cons, encRS, Nat.mul_add, Nat.add_assoc] using this
theorem HS.rows {w : World} {B : Nat} {A : Option Addr} {n c : Nat} {l : List StripeM} (h : HS w B (.slice A n c) l) :
    ∃ rs : List RS, rs.map RS.m = l ∧ rs.length = n ∧ (∀ x ∈ rs, GoodRS w B x) ∧ Src w 3 A n (rs.flatMap encRS) := by
  obtain ⟨A', c', e, _, _, h4⟩ := h
  simp only [Value.slice.injEq] at e
  obtain ⟨rfl, rfl, rfl⟩ := e
  by_cases hp : 0 < l.length
  · obtain ⟨b, cur, fr, rfl, _, hb, hc⟩ := h4 hp
    have : ∀ i, i < l.length → ∃ x : RS, x.m = l[i]?.getD .zero ∧ GoodRS w B x ∧ cur[3 * i]? = some (.int .i64 x.id) ∧ cur[3 * i + 1]? = some (.int .i64 x.ep) ∧ cur[3 * i + 2]? = some x.v := by
      intro i hi
      obtain ⟨u, c0, c1, c2, hu, hf⟩ := hc i hi
      obtain ⟨Au, nu, cu, rfl⟩ := hu.shape
      exact ⟨⟨_, _, Au, nu, cu, _⟩, rfl, ⟨hu, hf⟩, c0, c1, c2⟩
    obtain ⟨rs, hl, hp⟩ := exists_list l.length this
    refine ⟨rs, ?_, hl, fun x hx => ?_, ⟨by rw [flat_len, hl], fun _ => ⟨_, rfl, fun j u hu => ?_⟩⟩⟩
    · apply List.ext_getElem (by simp [hl])
      intro i h1 h2
      have h3 : i < rs.length := by simpa using h1
      have := (hp i rs[i] (List.getElem?_eq_getElem h3)).1
      rw [List.getElem_map, this, List.getElem?_eq_getElem h2]; rfl
    · obtain ⟨i, hi, rfl⟩ := List.getElem_of_mem hx
      exact (hp i _ (List.getElem?_eq_getElem hi)).2.1
    · have hj : j < rs.length * 3 := by rw [← flat_len]; exact (List.getElem?_eq_some_iff.1 hu).1
      have h3 : j / 3 < rs.length := by omega
      obtain ⟨_, _, d0, d1, d2⟩ := hp (j / 3) rs[j / 3] (List.getElem?_eq_getElem h3)
      obtain ⟨f0, f1, f2⟩ := flat_get rs (j / 3) h3
      rw [List.getElem?_eq_getElem h3] at f0 f1 f2
      rw [add_lit, cell_of_blk hb, Nat.zero_add]
      have hm : j % 3 = 0 ∨ j % 3 = 1 ∨ j % 3 = 2 := by omega
      rcases hm with h | h | h
      · obtain hjj : 3 * (j / 3) = j := by omega
        rw [← hjj] at hu ⊢; rw [f0] at hu; rw [← hu]; exact d0
      · obtain hjj : 3 * (j / 3) + 1 = j := by omega
        rw [← hjj] at hu ⊢; rw [f1] at hu; rw [← hu]; exact d1
      · obtain hjj : 3 * (j / 3) + 2 = j := by omega
        rw [← hjj] at hu ⊢; rw [f2] at hu; rw [← hu]; exact d2
  · obtain rfl : l = [] := List.eq_nil_of_length_eq_zero (by omega)
    exact ⟨[], rfl, rfl, by simp, ⟨rfl, by simp⟩⟩
/-- Cells that are rows read as stripes. -/
theorem HS.of_rows {w : World} {B g c : Nat} {cur : Array Value} {fr : Nat × Nat} {rs : List RS} (hc : rs.length ≤ c) (hcb : c ≤ 9223372036854775807) (hB : B ≤ g) (hb : w.heap[g]? = some (.cells cur 36 fr)) (hg : ∀ x ∈ rs, GoodRS w B x)
    (hcell : ∀ j, j < rs.length * 3 → cur[j]? = (rs.flatMap encRS)[j]?) : HS w B (.slice (some ⟨g, 0, none⟩) rs.length c) (rs.map RS.m) := by
  refine ⟨some ⟨g, 0, none⟩, c, by simp, by simpa using hc, hcb, fun _ => ⟨g, cur, fr, rfl, hB, hb, fun i hi => ?_⟩⟩
  rw [List.length_map] at hi
  obtain ⟨f0, f1, f2⟩ := flat_get rs i hi
  have e : (rs.map RS.m)[i]?.getD .zero = (rs[i]?.getD default).m := by
    rw [List.getElem?_map, List.getElem?_eq_getElem hi]; rfl
  have hx := hg _ (List.getElem_mem hi)
  rw [e]
  rw [List.getElem?_eq_getElem hi] at f0 f1 f2 ⊢
  refine ⟨rs[i].v, ?_, ?_, ?_, hx.1, hx.2⟩
  · rw [hcell _ (by omega), f0]; rfl
  · rw [hcell _ (by omega), f1]; rfl
  · rw [hcell _ (by omega), f2]; rfl
def cmpRS (x y : RS) : Int := Lib.compareInt x.id y.id
set_option maxRecDepth 100000 in
set_option maxHeartbeats 1000000 in
theorem strCmp_any (x y : RS) (w : World) :
    Calls Tryz.prog 73 #[.agg (encRS x).toArray, .agg (encRS y).toArray] w fun e w' => e = .returned (.int .i64 (cmpRS x y)) ∧ ∃ q os', w' = grow (w.drewN q) os' := by
  obtain ⟨i1, p1, A1, n1, c1, l1⟩ := x
  obtain ⟨i2, p2, A2, n2, c2, l2⟩ := y
  have C2 : Hid (∀ W, Calls Tryz.prog 74 #[.int .i64 i1, .int .i64 i2] W fun e w' => e = .returned (.int .i64 (Lib.compareInt i1 i2)) ∧ W = w') := Lib.hid fun W => (Tryz.cmp_Compare_int i1 i2 W).mono fun _ _ h => ⟨h.1, h.2.symm⟩
  unfold cmpRS encRS RS.v
  dsimp only
  generalize Lib.compareInt i1 i2 = r at *
  go_enter Tryz.func73, Tryz.ntmps73
  go_wp2_with (go_at_call 74; refine (C2.out _).mono ?_; rintro e w' ⟨rfl, rfl⟩)
  go_ret
  exact ⟨rfl, 0, #[.cells #[.int .i64 i1, .int .i64 p1, .slice A1 n1 c1] 36, .cells #[.int .i64 i2, .int .i64 p2, .slice A2 n2 c2] 36], rfl⟩
theorem strLays (blk off size : Nat) (w : World) : CmpLays Tryz.prog 73 #[] encRS 3 cmpRS blk off size w :=
  fun _ _ _ _ x y => strCmp_any x y _
theorem ltRS (x y : RS) : ltOf cmpRS x y = decide (x.id < y.id) := by
  unfold ltOf cmpRS Lib.compareInt
  rw [decide_eq_decide]
  repeat' split
  all_goals omega
theorem strSWO : SWO (ltOf cmpRS) := by
  refine ⟨fun x => ?_, fun x y z => ?_, fun x y z => ?_⟩ <;> simp only [ltRS, decide_eq_true_eq, decide_eq_false_iff_not] <;> omega
theorem three (x : RS) (k : Nat) (hk : k < 3) : (encRS x)[k]? = some (id (encRS x)[k]!) := by
  rw [getElem!_pos (encRS x) k (by simpa [encRS] using hk)]
  exact List.getElem?_eq_getElem _
theorem sortStr_any (g cap : Nat) (l : List RS) (w : World) (hl : l.length ≤ 12) (hg : g < w.heap.size)
    (hc : ∀ j, j < l.length * 3 → w.cell? ⟨g, j, none⟩ = (l.flatMap encRS)[j]?) (hf : ∀ i, w.frozen? ⟨g, i, none⟩ = false) :
    Calls Tryz.prog 72 #[.slice (some ⟨g, 0, none⟩) l.length cap, .func (.func 73) #[] #[]] w fun e w' => e = .returned (.tuple #[]) ∧ Chg (fun k => k = g) w w' ∧
      (∀ cur t fr, w.heap[g]? = some (.cells cur t fr) → ∃ cur', w'.heap[g]? = some (.cells cur' t fr)) ∧ ∃ l' : List RS, l'.Perm l ∧ ∀ j, j < l.length * 3 → w'.cell? ⟨g, j, none⟩ = (l'.flatMap encRS)[j]? := by
  have eg : ∀ args w, (callFunc 73 args).run Tryz.prog w = .ok (.enter 73 args) w := enters_of Tryz.func73 (by kernel_rfl) rfl
  have key : ∀ (l : List RS) (t : Nat), t < l.length * 3 → (l.flatMap encRS)[t]? = (encRS l.toArray[t / 3]!)[t % 3]? := by
    intro l t ht
    have h2 : t / 3 < l.length := by omega
    have e0 : l.toArray[t / 3]! = l[t / 3]?.getD default := by
      rw [getElem!_pos _ _ (by simpa using h2)]
      simp [List.getElem?_eq_getElem h2]
    obtain ⟨f0, f1, f2⟩ := flat_get l (t / 3) h2
    rw [e0]
    have hm : t % 3 = 0 ∨ t % 3 = 1 ∨ t % 3 = 2 := by omega
    rcases hm with h | h | h <;> rw [h]
    · rw [show 3 * (t / 3) = t by omega] at f0; rw [f0]; rfl
    · rw [show 3 * (t / 3) + 1 = t by omega] at f1; rw [f1]; rfl
    · rw [show 3 * (t / 3) + 2 = t by omega] at f2; rw [f2]; rfl
  have hH : HoldsK encRS 3 w g 0 l.toArray := by
    intro t ht
    rw [size_flatK] at ht
    have ht' : t < l.length * 3 := by simpa using ht
    refine ⟨?_, by simpa using hf _⟩
    rw [get_flatK _ _ _ _ ht, Nat.zero_add, hc t ht', key l t ht']
    exact three _ _ (Nat.mod_lt _ (by omega))
  have hcon := AnyQ.slices_SortFunc_small_sorted Tryz.sortStr 3 Tryz.isAgg36 Tryz.sizeOf36 encRS (fun _ => rfl) (fun x v hv => by simp [encRS, RS.v] at hv; rcases hv with rfl | rfl | rfl <;> rfl) cmpRS 73 #[] strSWO g 0 cap l.toArray w eg (strLays g 0 _ w) hH hg (by simpa using hl) bitLen12
  change Calls Tryz.prog 72 _ _ _ at hcon
  refine hcon.mono ?_
  rintro e w' ⟨rfl, d', n, os, hP, _, hw⟩
  have hsz := hP.1
  have hperm : d'.toList.Perm l := by
    have h := hP.2.2
    have hl' : d'.toList.length = l.length := by rw [Array.length_toList, hsz]; simp
    have e1 : d'.toList.take l.length = d'.toList := List.take_of_length_le (by omega)
    simpa [hsz, e1] using h
  have hHn : HoldsK encRS 3 w' g 0 d' := by
    rw [hw]; exact holdsK_sortWorldK_c encRS 3 w g 0 l.toArray _ n os hH hg hsz
  refine ⟨rfl, ?_, fun cur t fr hcur => ?_, d'.toList, hperm, fun j hj => ?_⟩
  · rw [hw]
    unfold sortWorldK
    refine ⟨rfl, rfl, rfl, ?_, fun k hk hn => ?_⟩
    · exact size_sortWorldK_c encRS 3 w g 0 n d' os
    · show (((putRowK encRS 3 (Sort.ahead w n) g 0 _).heap ++ os)[k]?) = _
      rw [Array.getElem?_append_left (by rw [size_putRowK]; exact hk)]
      simp only [putRowK, putRow, mapBlock, Array.getElem?_modify]
      rw [if_neg (fun e => hn e.symm)]
      rfl
  · rw [hw]
    unfold sortWorldK
    show ∃ cur', (((putRowK encRS 3 (Sort.ahead w n) g 0 _).heap ++ os)[g]?) = _
    rw [Array.getElem?_append_left (by rw [size_putRowK]; exact hg)]
    simp only [putRowK, putRow, mapBlock, Array.getElem?_modify, if_true]
    rw [show (Sort.ahead w n).heap[g]? = some (.cells cur t fr) from hcur]
    exact ⟨_, rfl⟩
  · have hj2 : j < d'.toList.length * 3 := by rw [hperm.length_eq]; exact hj
    have a := (hHn j (by rw [size_flatK]; simpa using hj2)).1
    rw [Nat.zero_add, get_flatK _ _ _ _ (by simpa using hj2)] at a
    rw [a, key _ _ hj2]
    rw [Array.toArray_toList]
    exact (three _ _ (Nat.mod_lt _ (by omega))).symm
end Go.Proofs.YtblddkjdglliaaaGreatDoor
namespace Go.Proofs.YtblddkjdglliaaaGreatDoor
open Go.RowKit Go.Maps

theorem IsTabE.get_key {w : World} {b mb : Nat} {T : TabM} {stv : Value} {n : Nat} {E : EL} (h : IsTabE w b mb T stv n E) {o : ObjM} (ho : o ∈ T.objs) : T.get o.key = some o := by
  unfold TabM.get
  cases hf : T.objs.find? (fun x => decide (x.key = o.key)) with
  | none =>
    have := List.find?_eq_none.1 hf o ho
    simp at this
  | some x =>
    have hx := List.mem_of_find?_eq_some hf
    have hk : x.key = o.key := by simpa using List.find?_some hf
    rw [← h.objs] at hx ho
    obtain ⟨p, hp, rfl⟩ := List.mem_map.1 hx
    obtain ⟨q, hq, rfl⟩ := List.mem_map.1 ho
    rw [h.nodup p hp q hq hk]
def TabM.at (T : TabM) (key : ByteArray) : List StripeM := ((T.get key).getD .zero).strs
def TabM.all (T : TabM) : List StripeM := T.objs.flatMap (·.strs)
theorem IsTabE.perm_all {w : World} {b mb : Nat} {T : TabM} {stv : Value} {n : Nat} {E : EL} (h : IsTabE w b mb T stv n E) {ks : List ByteArray} (hk : ks.Perm (T.objs.map (·.key))) : (ks.flatMap T.at).Perm T.all := by
  refine (hk.flatMap_right T.at).trans (List.Perm.of_eq ?_)
  rw [List.flatMap_map]
  unfold TabM.all
  rw [List.flatMap_def, List.flatMap_def]
  congr 1
  refine List.map_congr_left fun o ho => ?_
  unfold TabM.at
  rw [h.get_key ho]; rfl
theorem flat_take {α β : Type} (f : α → List β) : ∀ (l : List α) (k : Nat), ((l.take k).flatMap f).length ≤ (l.flatMap f).length
  | [], k => by simp
  | a :: l, 0 => by simp
  | a :: l, k + 1 => by
    have := flat_take f l k
    simp only [List.take_succ_cons, List.flatMap_cons, List.length_append]
    omega

theorem Src.more {w : World} {size m : Nat} {A : Option Addr} {news : List Value} (h : Src w size A m news) (o : Obj) : Src (w.alloc o) size A m news := by
  refine ⟨h.1, fun hm => ?_⟩
  obtain ⟨ad, e, hc⟩ := h.2 hm
  refine ⟨ad, e, fun j u hu => ?_⟩
  have := hc j u hu
  rw [World.cell?_alloc_some w _ o (by rw [this]; rfl)]
  exact this
theorem one_flat (l : List RS) : ∀ u ∈ l.flatMap encRS, u.oneCell' = true := by
  intro u hu
  obtain ⟨x, _, hx⟩ := List.mem_flatMap.1 hu
  simp [encRS, RS.v] at hx
  rcases hx with rfl | rfl | rfl <;> rfl
set_option maxRecDepth 100000 in
set_option maxHeartbeats 2000000 in
theorem tstripes_any (b mb : Nat) (T : TabM) (w : World) (h : IsTab w b mb T) (ok : TabOk T) (h1 : 1 ≤ T.all.length) (h12 : T.all.length ≤ 12) :
    Calls Tryz.prog 37 #[tblptr b] w fun e w' => ∃ v l, e = .returned v ∧ l.Perm T.all ∧ HS w' w.heap.size v l ∧ Below w.heap.size w w' := by
  have H := Lib.hid h
  have KE := Lib.hid (tkeys_any b mb T w h)
  have OB := Lib.hid fun key W (hB : Below w.heap.size w W) hk => tobject_any b mb T key W (h.below hB) ok hk
  have PA : Hid (∀ ks : List ByteArray, ks.Perm (T.objs.map (·.key)) → (ks.flatMap T.at).Perm T.all) := Lib.hid fun ks hk => by
    obtain ⟨stv, n, E, h⟩ := h
    exact h.perm_all hk
  have KK : Hid (∀ ks : List ByteArray, ks.Perm (T.objs.map (·.key)) → ∀ k ∈ ks, k.size ≤ 1000) := Lib.hid fun ks hk k hm => by
    obtain ⟨o, ho, rfl⟩ := List.mem_map.1 (hk.mem_iff.1 hm)
    have := (ok.objs o ho).key
    omega
  have H1 := Lib.hid h1
  have H12 := Lib.hid h12
  clear h ok h1 h12
  unfold tblptr at *
  go_enter Tryz.func37, Tryz.ntmps37
  go_wp2_with fail
  refine KE.out.mono ?_
  rintro e w1 ⟨v1, ks, rfl, hpk, hks, hB1⟩
  have PA1 := PA.out ks hpk
  have KK1 := KK.out ks hpk
  have hlen : (ks.flatMap T.at).length ≤ 12 ∧ 1 ≤ (ks.flatMap T.at).length := by rw [PA1.length_eq]; exact ⟨H12.out, H1.out⟩
  obtain ⟨A, c, rfl, -⟩ := id hks
  have hn : ks.length ≤ 1000000 := by
    obtain ⟨stv, n, E, h⟩ := H.out
    have e1 := hpk.length_eq
    rw [List.length_map, ← h.objs, List.length_map] at e1
    have := (own_tight h.own).size_le
    have h2 := h.own.size_le
    rw [size_dat] at h2
    have := h.few
    omega
  obtain ⟨n, hnn⟩ : ∃ n, ks.length = n := ⟨_, rfl⟩
  rw [hnn] at hn ⊢
  replace hnn := Lib.hid hnn
  replace hks := Lib.hid hks
  replace PA1 := Lib.hid PA1
  replace KK1 := Lib.hid KK1
  replace hlen := Lib.hid hlen
  replace hB1 := Lib.hid hB1
  clear PA KK H1 H12 KE hpk
  go_wp2_with fail
  go_loopw [3, 11] (fun u i wr => ∃ k : Nat, k ≤ n ∧ i = .int .i64 k ∧ Below w1.heap.size w1 wr ∧ ∃ rs : List RS, rs.map RS.m = (ks.take k).flatMap T.at ∧ wr.ownsRow w1.heap.size 36 3 u rs.length (rs.flatMap encRS) ∧ ∀ x ∈ rs, GoodRS wr w.heap.size x) (fun _ i _ => n - (intOf i).toNat)
  case atStart => exact ⟨0, by omega, rfl, Below.refl _ _, [], by simp, World.ownsRow_nil _ _ _ _, by simp⟩
  case round =>
    obtain ⟨k, hk, rfl, hB, rs, hrs, ho, hgood⟩ := hrel
    have hBw := hB1.out.trans (hB.mono hB1.out.size)
    by_cases hlt : k < n
    · obtain ⟨A', c', e, hcell⟩ := hks.out.below hB
      simp only [Value.slice.injEq] at e
      obtain ⟨rfl, -, -⟩ := e
      obtain ⟨g, cur, fr, rfl, hg, hc⟩ := hcell (by rw [hnn.out]; omega)
      have ck : wr.cell? ⟨g, k, none⟩ = some (.string (ks[k]?.getD ByteArray.empty)) := by rw [cell_of_blk hg, hc k (by rw [hnn.out]; exact hlt)]
      have hkm : ks[k]?.getD ByteArray.empty ∈ ks := by
        rw [List.getElem?_eq_getElem (by rw [hnn.out]; exact hlt)]; exact List.getElem_mem _
      have hkz := KK1.out _ hkm
      have htk : ks.take (k + 1) = ks.take k ++ [ks[k]?.getD ByteArray.empty] := by
        rw [List.take_add_one, List.getElem?_eq_getElem (by rw [hnn.out]; exact hlt)]; rfl
      have hle := flat_take T.at ks (k + 1)
      rw [htk, List.flatMap_append, List.length_append, ← hrs, List.length_map] at hle
      simp only [List.flatMap_cons, List.flatMap_nil, List.append_nil] at hle
      replace hle := Nat.le_trans hle hlen.out.1
      obtain ⟨key, hkey⟩ : ∃ key, ks[k]?.getD ByteArray.empty = key := ⟨_, rfl⟩
      rw [hkey] at ck htk hkz hle
      have OBK := Lib.hid (OB.out key wr hBw hkz)
      obtain ⟨Av, cv, rfl, -, -⟩ := own_shape ho
      replace htk := Lib.hid htk
      replace hrs := Lib.hid hrs
      replace ho := Lib.hid ho
      replace hgood := Lib.hid hgood
      have hat : Hid (((T.get key).getD .zero).strs = T.at key) := Lib.hid rfl
      replace hle := Lib.hid hle
      clear hcell hg hc hkm hkey hkz
      go_wp2_with fail
      refine OBK.out.mono ?_
      rintro e w2 ⟨v2, rfl, hS2, hB2⟩
      obtain ⟨A2, n2, c2, rfl⟩ := hS2.shape
      unfold objV
      rw [hat.out] at hS2
      obtain ⟨rs2, hm2, hl2, hg2, hsrc⟩ := hS2.rows
      have hl3 : rs.length + n2 ≤ 12 := by rw [hS2.cell.1]; exact hle.out
      have ho2 := own_zero (own_below ho.out hB2)
      replace hm2 := Lib.hid hm2
      replace hl2 := Lib.hid hl2
      replace hg2 := Lib.hid hg2
      replace hsrc := Lib.hid hsrc
      replace hB2 := Lib.hid hB2
      generalize (T.get key).getD .zero = o at *
      generalize (T.get key).isSome = bb at *
      clear hS2
      go_wp2_with (at_builtin; refine app_arm Tryz.ESt _ rfl (.tmp 21) (.tmp 23) rfl (v := .slice Av rs.length cv) rfl (ho2.alloc _) rfl (hsrc.out.more _) (one_flat rs2) (by omega) (by unfold maxLen; omega) ?_; intro v5 W5 ho5 hg5 _; obtain ⟨A5, k5, rfl, _⟩ := own_shape ho5)
      have hgr := hg5.from_alloc
      have hBw4 := hB.trans (hB2.out.mono hB.size)
      have hkp : ∀ (b : Nat) (cur : Array Value) (fr : Nat × Nat), w2.heap[b]? = some (.cells cur 3 fr) → W5.heap[b]? = some (.cells cur 3 fr) := by
        intro b cur fr hb
        refine hgr.chg.blk hb fun e => ?_
        obtain ⟨cur', e'⟩ := own_ty ho2 b e
        rw [hb] at e'; cases e'
      refine ⟨⟨k + 1, by omega, by go_num, hBw4.trans (hgr.chg.to_below hBw4.size fun q e => ?_), rs ++ rs2, ?_, ?_, ?_⟩, by simp [intOf]; omega⟩
      · exact (ho.out.lt q e).1
      · rw [htk.out, List.map_append, hrs.out, hm2.out]; simp
      · rw [List.length_append, hl2.out, List.flatMap_append]
        refine own_base ho5 fun q e => ?_
        rcases hgr.at_ with f | f
        · exact (ho.out.lt q (f ▸ e)).1
        · exact Nat.le_trans (Nat.le_trans hB.size hB2.out.size) (f q e)
      · intro x hx
        rcases List.mem_append.1 hx with hx | hx
        · exact ⟨((hgood.out x hx).below hB2.out).1.keep hkp, (hgood.out x hx).2⟩
        · exact ⟨((hg2.out x hx).mono hBw.size).1.keep hkp, ((hg2.out x hx).mono hBw.size).2⟩
    · obtain rfl : k = n := by omega
      rw [List.take_of_length_le (by rw [hnn.out]; exact Nat.le_refl _)] at hrs
      have hpos : 0 < rs.length := by have := hlen.out.2; rw [← hrs, List.length_map] at this; exact this
      have h12 : rs.length ≤ 12 := by have := hlen.out.1; rw [← hrs, List.length_map] at this; exact this
      obtain ⟨Av, cv, rfl, hcv, hcv2⟩ := own_shape ho
      obtain ⟨g, cur, rfl, -, hge, -, hb, hcs, htk, hcell⟩ := own_pos ho hpos
      have SO := sortStr_any g cv rs wr h12 (blk_lt hb) (fun j hj => hcell j hj) (fun i => frozen_of_blk hb i)
      obtain ⟨m, hm⟩ : ∃ m, rs.length = m := ⟨_, rfl⟩
      rw [hm] at SO hcv ⊢
      replace SO := Lib.hid SO
      have HM := Lib.hid hm
      replace hb := Lib.hid hb
      clear ho hcell htk hm hpos h12
      go_wp2_with fail
      refine SO.out.mono ?_
      rintro e w2 ⟨rfl, hch, hty, l', hp, hc⟩
      obtain ⟨cur', hb2⟩ := hty _ _ _ hb.out
      have hll : l'.length = m := by rw [hp.length_eq]; exact HM.out
      have hkp : ∀ (b : Nat) (cur : Array Value) (fr : Nat × Nat), wr.heap[b]? = some (.cells cur 3 fr) → w2.heap[b]? = some (.cells cur 3 fr) := by
        intro b cur fr hbb
        refine hch.blk hbb fun e => ?_
        rw [e, hb.out] at hbb; cases hbb
      have hS : HS w2 w.heap.size (.slice (some ⟨g, 0, none⟩) l'.length m) (l'.map RS.m) := by
        refine HS.of_rows (by omega) (by omega) (Nat.le_trans hB1.out.size hge) hb2 (fun x hx => ?_) (fun j hj => ?_)
        · have := hgood x (hp.mem_iff.1 hx)
          exact ⟨this.1.keep hkp, this.2⟩
        · rw [← cell_of_blk hb2]
          exact hc j (by rw [← hll]; exact hj)
      rw [hll] at hS
      have hpm : (l'.map RS.m).Perm T.all := (hp.map RS.m).trans (by rw [hrs]; exact PA1.out)
      have hBf : Below w.heap.size w w2 := hBw.trans (hch.to_below hBw.size fun q e => by rw [e]; exact Nat.le_trans hB1.out.size hge)
      replace hS := Lib.hid hS
      replace hpm := Lib.hid hpm
      replace hBf := Lib.hid hBf
      clear hty hp hc hch hb2 hkp hll SO hb hgood hrs
      go_wp2_with (go_at_call 75; refine (clip_stripe _ _ _ _ hcv).mono ?_; rintro e w' ⟨rfl, rfl⟩)
      go_ret
      exact ⟨_, _, rfl, hpm.out, hS.out, hBf.out⟩
end Go.Proofs.YtblddkjdglliaaaGreatDoor
namespace Go.Proofs.YtblddkjdglliaaaGreatDoor
open Go.RowKit Go.Maps

def TabM.strAt (T : TabM) (id : Int) : StripeM := match T.findS id with | some o => (o.strs[(id - 16 * o.id).toNat]?).getD .zero | none => .zero

set_option maxRecDepth 100000 in
set_option maxHeartbeats 1000000 in
theorem tstripe_get (b mb : Nat) (T : TabM) (id : Int) (w : World) (h : IsTab w b mb T) (ok : TabOk T) (hid : -1000000000000 ≤ id ∧ id ≤ 1000000000000) :
    Calls Tryz.prog 41 #[tblptr b, .int .i64 id] w fun e w' => ∃ v', e = .returned (.tuple #[.agg #[.int .i64 (T.strAt id).id, .int .i64 (T.strAt id).epoch, v'], .bool (T.findS id).isSome]) ∧ HI w' v' (T.strAt id).locs ∧ Below w.heap.size w w' := by
  have FI := Lib.hid fun W (hB : Below w.heap.size w W) => find_any' b mb T id W (h.below hB) ok hid
  have H := Lib.hid h
  have OK := Lib.hid ok
  clear h ok
  unfold TabM.strAt
  cases hf : T.findS id with
  | none =>
    rw [hf] at FI
    dsimp only [StripeM.zero] at FI ⊢
    clear hf
    unfold tblptr at *
    go_enter Tryz.func41, Tryz.ntmps41
    go_wp2_with fail
    refine (FI.out _ ((Below.refl _ w).alloc (Nat.le_refl _) _)).mono ?_
    rintro e w2 ⟨rfl, hB2⟩
    have hb2 := below_blk hB2 (heap_alloc_new w (.cells #[.int .i64 0, .int .i64 0, .slice none 0 0] 36))
    have hBw := ((Below.refl _ w).alloc (Nat.le_refl _) (.cells #[.int .i64 0, .int .i64 0, .slice none 0 0] 36)).trans (hB2.mono (by simp))
    obtain ⟨q, hq⟩ : ∃ q, w.heap.size = q := ⟨_, rfl⟩
    rw [hq] at hb2 ⊢
    have k0 : w2.cell? ⟨q, 0, none⟩ = some (.int .i64 0) := by rw [cell_of_blk hb2]; rfl
    have k1 : w2.cell? ⟨q, 1, none⟩ = some (.int .i64 0) := by rw [cell_of_blk hb2]; rfl
    have k2 : w2.cell? ⟨q, 2, none⟩ = some (.slice none 0 0) := by rw [cell_of_blk hb2]; rfl
    have f0 := frozen_of_blk hb2 0
    have f1 := frozen_of_blk hb2 1
    have f2 := frozen_of_blk hb2 2
    have HQ := Lib.hid hq
    replace hBw := Lib.hid hBw
    clear hB2 hb2 FI hq
    go_wp2
    refine bodyPost_ret (v := .tuple #[.agg #[.int .i64 0, .int .i64 0, .slice none 0 0], .bool false]) (by simp [results, Tryz.results41, go_sem, k0, k1, k2]) rfl ⟨_, rfl, HI.nil _, ?_⟩
    rw [HQ.out] at hBw
    rw [HQ.out]
    exact ((hBw.out.setCell (p := ⟨q, 0, none⟩) (Nat.le_refl q) _).setCell (p := ⟨q, 1, none⟩) (Nat.le_refl q) _).setCell (p := ⟨q, 2, none⟩) (Nat.le_refl q) _
  | some o =>
    rw [hf] at FI
    dsimp only at FI ⊢
    have ho : o ∈ T.objs := List.mem_of_find?_eq_some hf
    have hh : hits id o = true := List.find?_some hf
    unfold hits at hh
    simp only [Bool.and_eq_true, decide_eq_true_eq] at hh
    obtain ⟨p, hp⟩ : ∃ p : Nat, id - 16 * o.id = p := ⟨(id - 16 * o.id).toNat, by omega⟩
    rw [hp] at FI hh ⊢
    rw [Int.toNat_natCast]
    have hpl : p < o.strs.length := by omega
    have hob := OK.out.objs o ho
    have hstr := (OK.out.strs ho)
    have hlk := hob.few OK.out.k.1
    obtain ⟨⟨sid, sep, sl⟩, hs⟩ : ∃ s, o.strs[p]?.getD .zero = s := ⟨_, rfl⟩
    rw [hs]
    replace hs := Lib.hid hs
    dsimp only
    show Calls _ _ _ _ fun e w' => ∃ v', e = .returned (.tuple #[.agg #[.int .i64 sid, .int .i64 sep, v'], .bool true]) ∧ HI w' v' sl ∧ Below w.heap.size w w'
    unfold tblptr at *
    go_enter Tryz.func41, Tryz.ntmps41
    go_wp2_with fail
    refine (FI.out _ ((Below.refl _ w).alloc (Nat.le_refl _) _)).mono ?_
    rintro e w2 ⟨rfl, hB2⟩
    have hb2 := below_blk hB2 (heap_alloc_new w (.cells #[.int .i64 0, .int .i64 0, .slice none 0 0] 36))
    have hBw := ((Below.refl _ w).alloc (Nat.le_refl _) (.cells #[.int .i64 0, .int .i64 0, .slice none 0 0] 36)).trans (hB2.mono (by simp))
    obtain ⟨stv, n, E, hE⟩ := H.out.below hBw
    have hkey : keyOf Tryz.prog 9 (.string o.key) = some (keyLit o.key) := WideMaps.keyOf_string_mk Tryz.underlying9 (by have := hob.key; unfold maxLen; omega)
    obtain ⟨v, ps, hrun, hv⟩ := hE.own.lookup Tryz.strK Tryz.underlying128 (Tryz.zeroObj w2) (objR_mk .zero none 0 0) hkey
    obtain ⟨A, m, c, rfl, hS⟩ := looked hE o.key hv
    rw [hE.get_key ho] at hrun hS
    dsimp only [Option.getD_some] at hrun hS
    obtain ⟨hml, _, _, hcell⟩ := hS.cell
    obtain ⟨g, u, rfl, c0, c1, c2, hu⟩ := hcell p (by omega)
    have hpm : p < m := by omega
    have hll := hstr.2 (o.strs[p]?.getD .zero) (by rw [List.getElem?_eq_getElem hpl]; exact List.getElem_mem hpl)
    rw [hs.out] at c0 c1 hu hll
    dsimp only at c0 c1 c2 hu hll ⊢
    obtain ⟨Au, nu, cu, rfl⟩ := hu.shape
    have RC := Lib.hid (recClone_any sid sep _ sl w2 hu (by omega))
    unfold objV at hrun
    have a2 : w2.cell? ⟨b, 2, none⟩ = some (.map (some mb)) := by rw [cell_of_blk hE.blk]; rfl
    obtain ⟨q, hq⟩ : ∃ q, w.heap.size = q := ⟨_, rfl⟩
    rw [hq] at hb2 ⊢
    have HQ := Lib.hid hq
    replace hBw := Lib.hid hBw
    replace hb2 := Lib.hid hb2
    have hp12 : (0 : Int) ≤ p ∧ (p : Int) < m := by omega
    have hm12 : m ≤ 12 := by omega
    clear hf ho hh hp hob hstr hlk hE hkey hv hS hcell hu hll FI hq hB2 H OK
    obtain ⟨oid, hoid⟩ : ∃ x, o.id = x := ⟨_, rfl⟩
    obtain ⟨osz, hosz⟩ : ∃ x, o.size = x := ⟨_, rfl⟩
    rw [hoid, hosz] at hrun
    have hfield : ∀ W, (Instr.field 32 (.agg #[.string o.key, .int .i64 oid, .int .i64 osz, .slice (some ⟨g, 0, none⟩) m c]) 3).run Tryz.prog W = .ok (.slice (some ⟨g, 0, none⟩) m c) W := by
      intro W; kernel_rfl
    clear hoid hosz hml hpm hpl
    go_wp2_with fail
    refine RC.out.mono ?_
    rintro e w3 ⟨v3, rfl, hI, -, hB3⟩
    obtain ⟨A3, n3, c3, rfl⟩ := hI.shape
    have hb3 := below_blk hB3 hb2.out
    have k0 : w3.cell? ⟨q, 0, none⟩ = some (.int .i64 0) := by rw [cell_of_blk hb3]; rfl
    have k1 : w3.cell? ⟨q, 1, none⟩ = some (.int .i64 0) := by rw [cell_of_blk hb3]; rfl
    have k2 : w3.cell? ⟨q, 2, none⟩ = some (.slice none 0 0) := by rw [cell_of_blk hb3]; rfl
    have f0 := frozen_of_blk hb3 0
    have f1 := frozen_of_blk hb3 1
    have f2 := frozen_of_blk hb3 2
    have hB := Lib.hid (hBw.out.trans (hB3.mono hBw.out.size))
    have HI3 := Lib.hid hI
    replace hb3 := Lib.hid hb3
    clear hI hB3 RC hrun hfield hBw hb2 a2
    go_wp2
    refine bodyPost_ret (v := .tuple #[.agg #[.int .i64 sid, .int .i64 sep, .slice A3 n3 c3], .bool true]) (by simp [results, Tryz.results41, go_sem, k0, k1, k2]) rfl ⟨_, rfl, ?_, ?_⟩
    · refine HI3.out.chg (O := fun k => k = q) (((Chg.refl (fun k => k = q) w3).then_setCell (a := ⟨q, 0, none⟩) (.inl rfl) _).then_setCell (a := ⟨q, 1, none⟩) (.inl rfl) _ |>.then_setCell (a := ⟨q, 2, none⟩) (.inl rfl) _) ?_
      rintro k cur fr rfl e
      rw [hb3.out] at e; cases e
    · rw [HQ.out]
      have := hB.out
      rw [HQ.out] at this
      exact ((this.setCell (p := ⟨q, 0, none⟩) (Nat.le_refl q) _).setCell (p := ⟨q, 1, none⟩) (Nat.le_refl q) _).setCell (p := ⟨q, 2, none⟩) (Nat.le_refl q) _
end Go.Proofs.YtblddkjdglliaaaGreatDoor
