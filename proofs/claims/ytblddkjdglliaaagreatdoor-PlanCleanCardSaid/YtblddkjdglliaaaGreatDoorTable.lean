/- Plain laws of the table's objects: a list in the order of its keys, against a map as it is read. No condition. | Contracts: slices.Values at []int, slices.AppendSeq, slices.Collect, slices.Sorted behind it. Condition: a short slice. | The table: how it lies in memory. Contracts: Table.has, Table.find. Conditions: a table as IsTab says. | Contracts: Table.Object, Table.States, Table.Stripe. Conditions: a table as IsTab says. | Contracts: slices.Collect, slices.Sorted behind slices.Values at []int; slices.Compact where no two are one; Table.stripe at a stripe that may be. | Contracts: Table.object at an object that may be; Table.put at one that may be and is new; table.New. Conditions: a table as IsTab says. | Contract: Table.put at an object that may be and is new. Conditions: a table as IsTab says. | Contracts: table.drives at states that may be, Table.pool at a record that may be, table.New, Table.Apply. -/
import Derived.Test.YtblddkjdglliaaaGreatDoorStripe
import Derived.Maps.OwnSet
import Derived.Maps.RangeWalk
import Derived.Maps.Ext
import Derived.Sort.KeysCollected
import Derived.Test.YtblddkjdglliaaaGreatDoorChunk
import Derived.Test.YtblddkjdglliaaaGreatDoorInts
import Derived.Test.YtblddkjdglliaaaGreatDoorPlan
import Derived.Deep.QuietTactic
import Derived.Sort.OwnSortedInts
import Derived.WideKeyEntry
import Derived.Deep.RegionHeld3
namespace Go.Proofs.YtblddkjdglliaaaGreatDoor
open Go.RowKit Go.Maps

structure ObjM where
  key : ByteArray
  id : Int
  size : Int
  strs : List StripeM
def ObjM.zero : ObjM := ⟨ByteArray.empty, 0, 0, []⟩
def keyLit (s : ByteArray) : Lit := .string s.data.toList
def kBefore (a b : ByteArray) : Bool := (keyLit a).before (keyLit b)
/-- An object as a value of a map. -/
def objV (o : ObjM) (v : Value) : Value := .agg #[.string o.key, .int .i64 o.id, .int .i64 o.size, v]
/-- How a map's element is read: as it stands. -/
def objR : Value → Option (DataW Value × List MemPlace)
  | .agg cs => match cs.toList with
    | [.string k, .int .i64 i, .int .i64 z, .slice A n c] => some (.held (.agg #[.string k, .int .i64 i, .int .i64 z, .slice A n c]), [])
    | _ => none
  | _ => none
theorem objR_mk (o : ObjM) (A : Option Addr) (n c : Nat) : objR (objV o (.slice A n c)) = some (.held (objV o (.slice A n c)), []) := rfl
theorem objR_inv {v : Value} {y : DataW Value × List MemPlace} (h : objR v = some y) : ∃ k i z A n c, v = .agg #[.string k, .int .i64 i, .int .i64 z, .slice A n c] ∧ y = (.held v, []) := by
  unfold objR at h
  split at h
  · rename_i cs
    split at h
    · rename_i k i z A n c hcs
      have : cs = #[.string k, .int .i64 i, .int .i64 z, .slice A n c] := by rw [← Array.toArray_toList (xs := cs), hcs]
      subst this
      cases h
      exact ⟨k, i, z, A, n, c, rfl, rfl⟩
    · cases h
  · cases h
abbrev EL := List (ObjM × Value)
def entV (p : ObjM × Value) : Lit × DataW Value := (keyLit p.1.key, .held (objV p.1 p.2))
def dat (E : EL) : DataW Value := .map (E.map entV)

theorem keyLit_inj {a b : ByteArray} (h : keyLit a = keyLit b) : a = b := by
  unfold keyLit at h
  simp only [Lit.string.injEq] at h
  apply ByteArray.ext
  exact Array.ext' h
theorem sameKey_lit (a b : ByteArray) : (keyLit a).sameKey (keyLit b) = decide (a = b) := by
  show (a.data.toList == b.data.toList) = decide (a = b)
  rw [Bool.eq_iff_iff]
  simp only [beq_iff_eq, decide_eq_true_eq]
  constructor
  · intro h; exact keyLit_inj (by unfold keyLit; rw [h])
  · rintro rfl; rfl

section
variable {α : Type} (key : α → ByteArray)
/-- x at its place in a list in the order of its keys. -/
def insK (x : α) : List α → List α
  | [] => [x]
  | y :: r => if kBefore (key x) (key y) then x :: y :: r else y :: insK x r
def delK (k : ByteArray) (l : List α) : List α := l.filter fun y => !decide (key y = k)
def putK (x : α) (l : List α) : List α := insK key x (delK key (key x) l)
theorem mem_insK (x y : α) (l : List α) : y ∈ insK key x l ↔ y = x ∨ y ∈ l := by
  induction l with
  | nil => simp [insK]
  | cons a r ih =>
    unfold insK
    split
    · simp
    · simp only [List.mem_cons, ih]
      constructor
      · rintro (h | h | h)
        · exact .inr (.inl h)
        · exact .inl h
        · exact .inr (.inr h)
      · rintro (h | h | h)
        · exact .inr (.inl h)
        · exact .inl h
        · exact .inr (.inr h)
theorem mem_delK (k : ByteArray) (y : α) (l : List α) : y ∈ delK key k l ↔ y ∈ l ∧ key y ≠ k := by simp [delK]
theorem mem_putK (x y : α) (l : List α) : y ∈ putK key x l ↔ y = x ∨ (y ∈ l ∧ key y ≠ key x) := by rw [putK, mem_insK, mem_delK]
theorem insK_perm (x : α) (l : List α) : (insK key x l).Perm (x :: l) := by
  induction l with
  | nil => exact List.Perm.refl _
  | cons a r ih =>
    unfold insK
    split
    · exact List.Perm.refl _
    · exact (List.Perm.cons a ih).trans (List.Perm.swap x a r)
theorem insK_map {β : Type} (f : β → α) (x : β) (l : List β) : (insK (fun b => key (f b)) x l).map f = insK key (f x) (l.map f) := by
  induction l with
  | nil => rfl
  | cons a r ih =>
    unfold insK
    simp only [List.map_cons]
    split
    · simp
    · simp [ih]
theorem delK_map {β : Type} (f : β → α) (k : ByteArray) (l : List β) : (delK (fun b => key (f b)) k l).map f = delK key k (l.map f) := by
  unfold delK
  rw [List.filter_map]
  rfl
theorem putK_map {β : Type} (f : β → α) (x : β) (l : List β) : (putK (fun b => key (f b)) x l).map f = putK key (f x) (l.map f) := by
  rw [putK, insK_map, delK_map]; rfl
end
def keyP (p : ObjM × Value) : ByteArray := p.1.key
theorem insert_ent (p : ObjM × Value) (E : EL) : DataW.insert (entV p) (E.map entV) = (insK keyP p E).map entV := by
  induction E with
  | nil => rfl
  | cons a r ih =>
    simp only [List.map_cons, DataW.insert, insK]
    have e : (entV p).1.before (entV a).1 = kBefore (keyP p) (keyP a) := rfl
    rw [e]
    split
    · simp
    · simp [ih]
theorem put_dat (o : ObjM) (v : Value) (E : EL) : (dat E).put (keyLit o.key) (.held (objV o v)) = dat (putK keyP (o, v) E) := by
  show DataW.map (DataW.insert (entV (o, v)) ((E.map entV).filter fun p => !p.1.sameKey (keyLit o.key))) = _
  have e : ((E.map entV).filter fun p => !p.1.sameKey (keyLit o.key)) = (delK keyP o.key E).map entV := by
    rw [List.filter_map]
    unfold delK
    congr 1
    apply List.filter_congr
    intro x _
    show (!(keyLit x.1.key).sameKey (keyLit o.key)) = _
    rw [sameKey_lit]; rfl
  rw [e, insert_ent]
  rfl
theorem del_dat (k : ByteArray) (E : EL) : (dat E).del (keyLit k) = dat (delK keyP k E) := by
  show DataW.map ((E.map entV).filter fun p => !p.1.sameKey (keyLit k)) = _
  unfold dat
  congr 1
  rw [List.filter_map]
  unfold delK
  congr 1
  apply List.filter_congr
  intro x _
  show (!(keyLit x.1.key).sameKey (keyLit k)) = _
  rw [sameKey_lit]; rfl
theorem atKey_dat (k : ByteArray) (E : EL) (zd : DataW Value) : (dat E).atKey (keyLit k) zd = match E.find? (fun p => decide (p.1.key = k)) with | some p => .held (objV p.1 p.2) | none => zd := by
  unfold dat DataW.atKey
  dsimp only
  have e : (E.map entV).find? (fun p => p.1.sameKey (keyLit k)) = (E.find? (fun p => decide (p.1.key = k))).map entV := by
    rw [List.find?_map]
    congr 1
    have : ((fun p : Lit × DataW Value => p.1.sameKey (keyLit k)) ∘ entV) = fun p : ObjM × Value => decide (p.1.key = k) := by
      funext p
      exact sameKey_lit p.1.key k
    rw [this]
  rw [e]
  cases E.find? (fun p => decide (p.1.key = k)) <;> rfl
theorem has_dat (k : ByteArray) (E : EL) : Maps.has (dat E) (keyLit k) = E.any fun p => decide (p.1.key = k) := by
  show ((E.map entV).any fun p => p.1.sameKey (keyLit k)) = _
  rw [List.any_map]
  congr 1
  funext p
  exact sameKey_lit p.1.key k
theorem size_dat (E : EL) : Maps.size (dat E) = E.length := by
  show (E.map entV).length = _
  simp
theorem size_eq_empty {k : ByteArray} (h : k.size = 0) : k = ByteArray.empty := by
  apply ByteArray.ext
  apply Array.ext'
  have : k.data.toList.length = 0 := by simpa using h
  rw [List.eq_nil_of_length_eq_zero this]; rfl
end Go.Proofs.YtblddkjdglliaaaGreatDoor
namespace Go.Proofs.YtblddkjdglliaaaGreatDoor
open Go.RowKit Go.Sort

attribute [local go_sem] Oper.semAt_some

set_option maxRecDepth 100000 in
theorem values_any (A : Option Addr) (n c : Nat) (w : World) :
    Calls Tryz.prog 153 #[.slice A n c] w fun e w' => e = .returned (.func (.func 180) #[] #[.pointer (some ⟨w.heap.size, 0, none⟩)]) ∧ w' = w.alloc (.cells #[.slice A n c] 24) := by
  go_enter Tryz.func153, Tryz.ntmps153
  go_wp2
  go_ret
  exact ⟨rfl, rfl⟩

/-- The slice's cells, in a block of S below B. -/
def InRow (B : Nat) (S : Nat → Prop) (w : World) (A : Option Addr) (xs : List Int) : Prop :=
  0 < xs.length → ∃ (b o : Nat) (cur : Array Value), A = some ⟨b, o, none⟩ ∧ S b ∧ b < B ∧ w.heap[b]? = some (.cells cur 3 (0, 0)) ∧ ∀ i, i < xs.length → cur[o + i]? = some (.int .i64 (xs[i]?.getD 0))
theorem InRow.kp {B : Nat} {S : Nat → Prop} {w w' : World} {A : Option Addr} {xs : List Int} (h : InRow B S w A xs) (hk : Kp B S w w') : InRow B S w' A xs := fun hp => by
  obtain ⟨b, o, cur, rfl, hS, hB, hb, hc⟩ := h hp
  exact ⟨b, o, cur, rfl, hS, hB, (hk b hB hS).trans hb, hc⟩

set_option maxRecDepth 100000 in
set_option maxHeartbeats 1000000 in
theorem values1_in (n : Nat) (hn : 1 ≤ n) (l b1 cap : Nat) (A : Option Addr) (xs : List Int) (B : Nat) (S : Nat → Prop) (_hS1 : S b1) (_hB1 : b1 < B) (hx : xs.length ≤ 60000)
    (J Jx : List Int → World → Prop) (W : World)
    (hY : ∀ pre x W, J pre W → pre.length < xs.length → YieldAt Fence.wide (n - 1) Tryz.prog l #[.int .i64 x] W fun e W' =>
      (e = .returned (.bool true) ∧ J (pre ++ [x]) W' ∧ Kp B S W W') ∨ (e = .returned (.bool false) ∧ Jx (pre ++ [x]) W'))
    (h1 : W.heap[b1]? = some (.cells #[.slice A xs.length cap] 24 (0, 0))) (hR : InRow B S W A xs) (h0 : J [] W) :
    CallsIn Fence.wide n Tryz.prog 180 #[.func (.yield l) #[] #[], .pointer (some ⟨b1, 0, none⟩)] W fun e W' => (∃ v, e = .returned v) ∧
      ((∃ ys, ys = xs ∧ J ys W') ∨ (∃ pre, pre <+: xs ∧ Jx pre W')) := by
  refine callsIn_of_wp Tryz.func180 rfl trivial ?_ rfl
  simp only [Tryz.ntmps180, List.size_toArray, List.length_cons, List.length_nil, Nat.reduceAdd, Nat.reduceSub, Array.replicate_succ, Array.replicate_zero, List.push_toArray, List.append_toArray, List.nil_append, List.cons_append]
  have c1 : W.cell? ⟨b1, 0, none⟩ = some (.slice A xs.length cap) := by rw [cell_of_blk h1]; rfl
  obtain ⟨q, hq⟩ : ∃ q, xs.length = q := ⟨_, rfl⟩
  rw [hq] at c1 hY hx
  have HQ := Lib.hid hq
  clear hq h1
  gi_wp2
  gi_loopw [7] (fun i wr => ∃ j : Nat, j ≤ q ∧ i = .int .i64 j ∧ InRow B S wr A xs ∧ J (xs.take j) wr) (fun i _ => q - (intOf i).toNat)
  case atStart => exact ⟨0, by omega, rfl, hR, by simpa using h0⟩
  case round =>
    obtain ⟨j, hj, rfl, hR, hJ⟩ := hrel
    by_cases hlt : j < q
    · obtain ⟨b, o, cur, rfl, -, -, hb, hc⟩ := hR (by rw [HQ.out]; omega)
      have cj : wr.cell? ⟨b, o + j, none⟩ = some (.int .i64 (xs[j]?.getD 0)) := by rw [cell_of_blk hb, hc j (by rw [HQ.out]; exact hlt)]
      have hts := take_snoc xs j (by rw [HQ.out]; exact hlt) 0
      generalize xs[j]?.getD 0 = x at *
      have HY := Lib.hid (hY (xs.take j) x wr hJ (by rw [List.length_take, HQ.out]; omega))
      have HTS := Lib.hid hts
      have HR := Lib.hid hR
      clear hY hJ hts hR hb hc
      obtain ⟨fn, tmps, assign, body, hy, hR2⟩ := HY.out
      gi_wp2
      refine hR2.mono ?_
      rintro e W3 (⟨rfl, hJ3, hk3⟩ | ⟨rfl, hJx3⟩)
      · have HR3 := Lib.hid (HR.out.kp hk3)
        clear hk3
        gi_wp2
        go_roundw
        case rel => exact ⟨j + 1, by omega, by go_num, HR3.out, by rw [HTS.out]; exact hJ3⟩
        case measure => simp [intOf]; omega
      · gi_wp2
        refine bodyPost_ret (results_none rfl _ _ _) rfl ?_
        exact ⟨⟨_, rfl⟩, .inr ⟨xs.take (j + 1), List.take_prefix _ _, by rw [HTS.out]; exact hJx3⟩⟩
    · obtain rfl : j = q := by omega
      rw [List.take_of_length_le (by rw [HQ.out]; exact Nat.le_refl _)] at hJ
      gi_wp2
      go_end0
      exact ⟨⟨_, rfl⟩, .inl ⟨_, rfl, hJ⟩⟩

theorem values_stops (n : Nat) (hn : 1 ≤ n) (b1 cap : Nat) (A : Option Addr) (xs : List Int) (B : Nat) (S : Nat → Prop) (hS1 : S b1) (hB1 : b1 < B) (w : World) (hBw : B ≤ w.heap.size) (hx : xs.length ≤ 60000)
    (h1 : w.heap[b1]? = some (.cells #[.slice A xs.length cap] 24 (0, 0))) (hR : InRow B S w A xs) :
    SeqStopsK Fence.wide n Tryz.prog 180 #[.pointer (some ⟨b1, 0, none⟩)] (fun x : Int => #[.int .i64 x]) (Kp B S) (fun ys => ys = xs) (fun pre => pre <+: xs) xs.length w := by
  intro l J Jx W hW hJ _ hY h0
  exact values1_in n hn l b1 cap A xs B S hS1 hB1 hx J Jx W hY ((hW.block b1 (by omega)).trans h1) (hR.kp fun k hk _ => hW.block k (by omega)) h0

theorem info_int : (Tryz.prog.info? 3).map (fun i => (i.zero, i.size, i.bytes)) = some (some (.int .i64 0), 1, 8) := by kernel_rfl

set_option maxRecDepth 100000 in
set_option maxHeartbeats 2000000 in
theorem appendSeqI_any (b1 cap : Nat) (A : Option Addr) (xs : List Int) (w : World) (hB1 : b1 < w.heap.size) (hx : xs.length ≤ 60000)
    (h1 : w.heap[b1]? = some (.cells #[.slice A xs.length cap] 24 (0, 0))) (hR : InRow w.heap.size (fun _ => True) w A xs) :
    Calls Tryz.prog 209 #[.slice none 0 0, .func (.func 180) #[] #[.pointer (some ⟨b1, 0, none⟩)]] w fun e W' =>
      ∃ v, e = .returned v ∧ W'.ownsRow w.heap.size 3 1 v xs.length (ints .i64 xs) ∧ Below w.heap.size w W' := by
  obtain ⟨i0, hi, hz0, hz1, hz2⟩ := info_parts info_int
  refine (callsIn_wide (n := 3)).1 ?_
  refine callsIn_of_wp_marks Tryz.func209 rfl trivial ?_ rfl
  simp only [Tryz.ntmps209, List.size_toArray, List.length_cons, List.length_nil, Nat.reduceAdd, Nat.reduceSub, Array.replicate_succ, Array.replicate_zero, List.push_toArray, List.append_toArray, List.nil_append, List.cons_append]
  gi_wp2
  have bO := Boxed.new w 24 (.slice none 0 0)
  have hB0 : Below w.heap.size w (w.alloc (.cells #[.slice none 0 0] 24)) := (Below.refl _ w).alloc (Nat.le_refl _) _
  refine wpIn_rangeFunc_ownG rfl (by omega) (gf := 180) (lb := #[.pointer (some ⟨b1, 0, none⟩)]) rfl trivial (enters_of Tryz.func180 (by kernel_rfl) rfl)
    (values_stops 2 (by omega) b1 cap A xs w.heap.size (fun _ => True) trivial hB1 _ (by simp) hx ((hB0.block b1 hB1).trans h1) (hR.kp (Kp.of_below hB0))) Kp.trans (Kp.book (by simp)) (Below.refl _ _) (fun _ => rfl)
    (fun pre W => (∃ v, Boxed W w.heap.size 24 v ∧ W.ownsRow w.heap.size 3 1 v pre.length (ints .i64 pre) ∧ (v = .slice none 0 0 ↔ pre = [])) ∧ Below w.heap.size w W)
    (fun _ _ _ => False)
    (OwnFrom.and (Own.from (holdsRow_own w.heap.size w.heap.size 24 3 1 (fun pre : List Int => pre.length) (fun pre => ints .i64 pre) (fun pre v => v = .slice none 0 0 ↔ pre = [])) _) (ownFrom_below (Nat.le_refl _) (by simp)))
    (fun _ _ _ _ _ hs _ _ => hs)
    ⟨⟨_, bO, World.ownsRow_nil _ _ _ _, by simp⟩, hB0⟩
    (fun x => { tmps := #[.slice none 0 0, .func (.func 180) #[] #[.pointer (some ⟨b1, 0, none⟩)], .pointer (some ⟨w.heap.size, 0, none⟩), undef, .slice none 0 0, .int .i64 x, .func (.func 180) #[] #[.pointer (some ⟨b1, 0, none⟩)], .int .i64 x, undef, undef, undef, undef, undef], defers := [] }) ?assign ?body ?done ?stop
  case assign =>
    intro l x W K hK
    gi_wp2
    exact hK
  case body =>
    rintro l pre x W ⟨⟨v, hv, hrow, hnil⟩, hB⟩ hlt
    have hc := hv.cell
    gi_wp2_with (gi_at_builtin; refine wpListIn_append_own _ rfl _ _ 24 rfl w.heap.size 3 i0 (.int .i64 0) 1 8 Tryz.underlying24 hi hz0 hz1 hz2 rfl (by decide) _ _ _ rfl (hrow.alloc _) ⟨W.heap.size, 0, none⟩ 1 1 [.int .i64 x] rfl rfl (cell_one_new _ _ _) (by simp [Value.oneCell']) (by simp [maxLen]; omega) (by omega) (by have := hB.size; simp; omega) ?_; intro v' w1 hown' hgrow _; obtain ⟨g', cap', rfl⟩ := ownsRow_succ hown'; obtain ⟨hv1, hv2, hr2, hk2, hb2⟩ := hv.appended (by decide) hrow hB.size (Nat.le_refl _) hown' hgrow; have hc1 := hv1.cell; have hf1 := hv1.frozen)
    exact ⟨hk2.from _, Kp.of_below hb2, ⟨_, hv2, by simpa [ints] using hr2, by simp⟩, hB.trans hb2⟩
  case done =>
    rintro D ys W hD rfl ⟨⟨v, hv, hrow, hnil⟩, hB⟩ hK
    have hc := hv.cell
    gi_wp2
    refine ⟨by simp, .inl ⟨_, _, rfl, run_takeDeferred hK, ?_⟩⟩
    refine ⟨_, results_tmp rfl _ _ _, v, rfl, ?_, ?_⟩
    · exact ownsRow_putObj hrow _ hK rfl
    · exact hB.trans (belowK_b (w := w) (Nat.le_refl _) W D _ _ (by simp at hD; omega) hK rfl rfl)
  case stop =>
    rintro D c pre W _ _ h _
    exact h.elim
end Go.Proofs.YtblddkjdglliaaaGreatDoor
namespace Go.Proofs.YtblddkjdglliaaaGreatDoor
open Go.RowKit Go.Maps

structure TabM where
  k : Nat
  m : Nat
  objs : List ObjM
  states : List Int
  epoch : Int
  last : Int
def tblptr (b : Nat) : Value := .pointer (some ⟨b, 0, none⟩)
theorem Tryz.strK : Keyed Tryz.prog 9 := string_keyed Tryz.underlying9
theorem Tryz.zeroObj (w : World) : (zeroValue 32).run Tryz.prog w = .ok (objV .zero (.slice none 0 0)) w := by kernel_rfl
/-- A table lies at block b, its objects in the map of block mb. -/
structure IsTabE (w : World) (b mb : Nat) (T : TabM) (stv : Value) (n : Nat) (E : EL) : Prop where
  blk : w.heap[b]? = some (.cells #[.int .i64 T.k, .int .i64 T.m, .map (some mb), stv, .int .i64 T.epoch, .int .i64 T.last] 130 (0, 0))
  own : w.ownsMap Tryz.prog 9 objR mb n (dat E)
  few : n ≤ 1000000
  objs : E.map (·.1) = T.objs
  strs : ∀ p ∈ E, HS w 0 p.2 p.1.strs
  states : HI w stv T.states
def IsTab (w : World) (b mb : Nat) (T : TabM) : Prop := ∃ stv n E, IsTabE w b mb T stv n E
theorem own_map_chg {O : Nat → Prop} {w w' : World} {P : Program} {k : TypeId} {R : Value → Option (DataW Value × List MemPlace)} {b n : Nat} {D : DataW Value} (h : w.ownsMap P k R b n D) (hc : Chg O w w') (ho : ¬ O b) : w'.ownsMap P k R b n D := by
  have hlt := h.lt
  obtain ⟨es, clock, hb, rest⟩ := h
  exact ⟨es, clock, (hc.block b hlt ho).trans hb, rest⟩
theorem IsTabE.chg {O : Nat → Prop} {w w' : World} {b mb : Nat} {T : TabM} {stv : Value} {n : Nat} {E : EL} (h : IsTabE w b mb T stv n E) (hc : Chg O w w') (h1 : ¬ O b) (h2 : ¬ O mb)
    (h3 : ∀ (k : Nat) (cur : Array Value) (t : TypeId) (fr : Nat × Nat), t = 3 ∨ t = 36 → O k → w.heap[k]? ≠ some (.cells cur t fr)) : IsTabE w' b mb T stv n E :=
  ⟨hc.blk h.blk h1, own_map_chg h.own hc h2, h.few, h.objs, fun p hp => (h.strs p hp).chg hc h3, h.states.chg hc fun k cur fr ho => h3 k cur _ fr (.inl rfl) ho⟩
theorem IsTabE.below {w w' : World} {b mb : Nat} {T : TabM} {stv : Value} {n : Nat} {E : EL} (h : IsTabE w b mb T stv n E) (hb : Below w.heap.size w w') : IsTabE w' b mb T stv n E :=
  h.chg (O := fun _ => False) (Chg.of_below hb) (fun x => x) (fun x => x) (fun _ _ _ _ _ x => x.elim)
theorem IsTab.below {w w' : World} {b mb : Nat} {T : TabM} (h : IsTab w b mb T) (hb : Below w.heap.size w w') : IsTab w' b mb T := by
  obtain ⟨stv, n, E, h⟩ := h
  exact ⟨stv, n, E, h.below hb⟩
theorem IsTabE.nodup {w : World} {b mb : Nat} {T : TabM} {stv : Value} {n : Nat} {E : EL} (h : IsTabE w b mb T stv n E) : ∀ p ∈ E, ∀ q ∈ E, p.1.key = q.1.key → p = q := by
  obtain ⟨es, e, hp⟩ := h.own.tidy Tryz.strK
  unfold dat at e
  simp only [DataW.map.injEq] at e
  subst e
  rw [List.pairwise_map] at hp
  clear h
  induction E with
  | nil => simp
  | cons a r ih =>
    obtain ⟨h1, h2⟩ := List.pairwise_cons.1 hp
    intro p hp' q hq' hk
    rcases List.mem_cons.1 hp' with rfl | hp''
    · rcases List.mem_cons.1 hq' with rfl | hq''
      · rfl
      · exact absurd (by show keyLit p.1.key = keyLit q.1.key; rw [hk]) (h1 q hq'')
    · rcases List.mem_cons.1 hq' with rfl | hq''
      · exact absurd (by show keyLit q.1.key = keyLit p.1.key; rw [hk]) (h1 p hp'')
      · exact ih h2 p hp'' q hq'' hk
theorem key_lit {x : ByteArray} {kl : Lit} (h : keyOf Tryz.prog 9 (.string x) = some kl) : kl = keyLit x := by
  obtain ⟨l, e, rfl, _⟩ := Maps.keyOf_str Tryz.underlying9 h
  cases e
  rfl
theorem held_dat {E : EL} {x : ByteArray} {v : Value} (h : ∀ zd, (dat E).atKey (keyLit x) zd = .held v) : ∃ p ∈ E, p.1.key = x ∧ v = objV p.1 p.2 := by
  have h0 := h .nil
  rw [atKey_dat] at h0
  cases hf : E.find? (fun p => decide (p.1.key = x)) with
  | none => rw [hf] at h0; cases h0
  | some p =>
    rw [hf] at h0
    simp only [DataW.held.injEq] at h0
    exact ⟨p, List.mem_of_find?_eq_some hf, by simpa using List.find?_some hf, h0.symm⟩
structure Raw where
  key : ByteArray
  id : Int
  size : Int
  A : Option Addr
  n : Nat
  c : Nat
def rawV (c : Raw) : Value := .agg #[.string c.key, .int .i64 c.id, .int .i64 c.size, .slice c.A c.n c.c]
theorem inv_key (key : Value) (kl : Lit) (h : keyOf Tryz.prog 9 key = some kl) : ∃ x, key = Value.string x := by
  obtain ⟨l, e, _, _⟩ := Maps.keyOf_str Tryz.underlying9 h
  exact ⟨_, e⟩
theorem inv_val (v : Value) (y : DataW Value × List MemPlace) (h : objR v = some y) : ∃ c, v = rawV c := by
  obtain ⟨k, i, z, A, n, c, rfl, _⟩ := objR_inv h
  exact ⟨⟨k, i, z, A, n, c⟩, rfl⟩
/-- What an entry that comes out of the map is. -/
theorem came {E : EL} {x : ByteArray} {c : Raw} {kl : Lit} {yd : DataW Value} {yp : List MemPlace} (hk : keyOf Tryz.prog 9 (.string x) = some kl) (hv : objR (rawV c) = some (yd, yp)) (hat : ∀ zd, (dat E).atKey kl zd = yd) :
    kl = keyLit x ∧ ∃ p ∈ E, p.1.key = x ∧ rawV c = objV p.1 p.2 := by
  obtain rfl := key_lit hk
  obtain ⟨_, _, _, _, _, _, _, hy⟩ := objR_inv hv
  have : ∀ zd, (dat E).atKey (keyLit x) zd = .held (rawV c) := fun zd => by
    rw [hat zd]
    simp only [Prod.mk.injEq] at hy
    exact hy.1
  obtain ⟨p, hp, e1, e2⟩ := held_dat this
  exact ⟨rfl, p, hp, e1, e2⟩
theorem raw_eq {c : Raw} {o : ObjM} {v : Value} (h : rawV c = objV o v) : c.key = o.key ∧ c.id = o.id ∧ c.size = o.size ∧ v = .slice c.A c.n c.c := by
  unfold rawV objV at h
  simp at h
  exact ⟨h.1, h.2.1, h.2.2.1, h.2.2.2.symm⟩

set_option maxRecDepth 100000 in
set_option maxHeartbeats 1000000 in
theorem has_any (b mb : Nat) (T : TabM) (id : Int) (w : World) (h : IsTab w b mb T) :
    Calls Tryz.prog 122 #[tblptr b, .int .i64 id] w fun e w' => e = .returned (.bool (T.objs.any fun o => decide (o.id = id))) ∧ Below w.heap.size w w' := by
  obtain ⟨stv, n, E, h⟩ := h
  have c2 : w.cell? ⟨b, 2, none⟩ = some (.map (some mb)) := by rw [cell_of_blk h.blk]; rfl
  have hown := h.own
  have H := Lib.hid h
  obtain ⟨R, hR⟩ : ∃ R, (T.objs.any fun o => decide (o.id = id)) = R := ⟨_, rfl⟩
  rw [hR]
  replace hR := Lib.hid hR
  clear h
  unfold tblptr
  go_enter Tryz.func122, Tryz.ntmps122
  go_wp2_with (at_range; refine wpList_range_own _ rfl _ 128 rfl 9 32 Tryz.strK Tryz.underlying128 _ mb n _ rfl hown ?_; intro w0 hrg0 hg0 hs0)
  go_frame
  go_loopw [6] (fun _ wr => ∃ (left : Lit → Bool) (cnt : Nat), wr.ranges Tryz.prog 9 objR mb w.heap.size n (dat E) left cnt ∧ Below w.heap.size w wr ∧ ∀ p ∈ E, left (keyLit p.1.key) = false → p.1.id ≠ id) (fun _ wr => wr.rangeLeft mb w.heap.size)
  case atStart =>
    refine ⟨_, _, hrg0, ?_, fun p hp hl => ?_⟩
    · exact (Chg.of_grown (O := fun _ => False) hg0 (fun k hk => by cases hk)).to_below (Nat.le_refl _) (fun _ x => x.elim)
    · rw [has_dat] at hl
      have := List.any_eq_false.1 hl p hp
      simp at this
  case round =>
    obtain ⟨left, cnt, hrg, hB, hno⟩ := hrel
    have hno' := Lib.hid hno
    clear hno
    go_wp2_with (at_next; refine wpList_next_ranges _ rfl _ rfl 9 Tryz.strK objR Value.string rawV inv_key inv_val mb w.heap.size n _ _ _ rfl hrg ?_ ?_)
    · intro _ hl0
      have hfin : R = false := by
        rw [← hR.out, ← H.out.objs, List.any_map, List.any_eq_false]
        intro p hp
        simpa using hno'.out p hp (hl0 _)
      subst hfin
      go_wp2
      go_ret
      exact ⟨rfl, hB⟩
    · intro x c kl yd yp w1 cnt1 hkey hlk hv hat hrg1 hlt hg1 hs1 hen
      obtain ⟨hkl, p, hp, hpk, hce⟩ := came hkey hv hat
      obtain ⟨-, hci, -, -⟩ := raw_eq hce
      obtain ⟨ck, ci, cz, cA, cn, cc⟩ := c
      have hB1 : Below w.heap.size w w1 := hB.trans ((Chg.of_grown (O := fun k => k = w.heap.size) hg1 (fun k hk => by cases hk; rfl)).to_below hB.size (fun k e => by rw [e]; exact Nat.le_refl _))
      unfold rawV at hen ⊢
      dsimp only at hen hci ⊢
      have hrg2 := Lib.hid (hrg1.alloc (.cells #[.string ck, .int .i64 ci, .int .i64 cz, .slice cA cn cc] 32))
      have hrg0 := Lib.hid hrg
      replace hci := Lib.hid hci
      replace hkl := Lib.hid hkl
      replace hpk := Lib.hid hpk
      have HAT := Lib.hid hat
      replace hB1 := Lib.hid hB1
      clear hs1 hrg1 hrg hat hkey hv hlk hce hg1 hB
      by_cases heq : ci = id
      · have hfin : R = true := by
          rw [← hR.out, ← H.out.objs, List.any_map, List.any_eq_true]
          exact ⟨p, hp, by simpa [← hci.out] using heq⟩
        subst hfin
        have heqb : (ci == id) = true := by simpa using heq
        clear heq
        go_wp2
        go_ret
        exact ⟨rfl, hB1.out.alloc hB1.out.size _⟩
      · have heqb : (ci == id) = false := by simpa using heq
        replace heq := Lib.hid heq
        go_wp2
        refine ⟨⟨_, cnt1, hrg2.out, hB1.out.alloc hB1.out.size _, fun p' hp' hl => ?_⟩, ?_⟩
        · rcases Bool.and_eq_false_iff.1 hl with h1 | h1
          · exact hno'.out p' hp' h1
          · rw [hkl.out, sameKey_lit] at h1
            have e1 : p'.1.key = x := by simpa using h1
            have : p' = p := H.out.nodup p' hp' p hp (by rw [e1, hpk.out])
            rw [this, ← hci.out]
            exact heq.out
        · rw [hrg2.out.left_eq, hrg0.out.left_eq]; exact hlt

/-- May a table be so? -/
structure StrOk (k m : Nat) (s : StripeM) : Prop where
  ep : 0 ≤ s.epoch ∧ s.epoch ≤ 1073741824
  len : s.locs.length = k + m
  loc : ∀ d ∈ s.locs, 0 ≤ d ∧ d ≤ 11
  nd : s.locs.Nodup
structure ObjOk (k m : Nat) (o : ObjM) : Prop where
  key : 1 ≤ o.key.size ∧ o.key.size ≤ 16
  id : 1 ≤ o.id ∧ o.id ≤ 33554432
  size : 0 ≤ o.size ∧ o.size ≤ 96
  cnt : o.strs.length = countN k o.size.toNat
  ids : ∀ (i : Nat) s, o.strs[i]? = some s → s.id = 16 * o.id + i ∧ StrOk k m s
structure TabOk (T : TabM) : Prop where
  k : 1 ≤ T.k ∧ T.k ≤ 4
  m : T.m ≤ 3
  objs : ∀ o ∈ T.objs, ObjOk T.k T.m o
  ids : ∀ o ∈ T.objs, ∀ o' ∈ T.objs, o.id = o'.id → o = o'
  st : T.states.length ≤ 12 ∧ ∀ s ∈ T.states, 0 ≤ s ∧ s ≤ 2
theorem ObjOk.few {k m : Nat} {o : ObjM} (h : ObjOk k m o) (hk : 1 ≤ k) : o.strs.length ≤ 12 := by
  rw [h.cnt]; exact countN_le k _ hk (by have := h.size; omega)
def hits (id : Int) (o : ObjM) : Bool := decide (0 ≤ id - 16 * o.id) && decide (id - 16 * o.id < o.strs.length)
/-- Where a stripe is. -/
def TabM.findS (T : TabM) (id : Int) : Option ObjM := T.objs.find? (hits id)
theorem TabOk.one {T : TabM} (h : TabOk T) {id : Int} {o o' : ObjM} (ho : o ∈ T.objs) (ho' : o' ∈ T.objs) (h1 : hits id o = true) (h2 : hits id o' = true) : o = o' := by
  have a := (h.objs o ho).few h.k.1
  have b := (h.objs o' ho').few h.k.1
  unfold hits at h1 h2
  simp at h1 h2
  exact h.ids o ho o' ho' (by omega)
theorem TabOk.found {T : TabM} (h : TabOk T) {id : Int} {o : ObjM} (ho : o ∈ T.objs) (h1 : hits id o = true) : T.findS id = some o := by
  unfold TabM.findS
  cases hf : T.objs.find? (hits id) with
  | none => exact absurd h1 (by have := List.find?_eq_none.1 hf o ho; simpa using this)
  | some o' => rw [h.one ho (List.mem_of_find?_eq_some hf) h1 (List.find?_some hf)]

set_option maxRecDepth 100000 in
set_option maxHeartbeats 1000000 in
theorem find_any' (b mb : Nat) (T : TabM) (id : Int) (w : World) (h : IsTab w b mb T) (ok : TabOk T) (hid : -1000000000000 ≤ id ∧ id ≤ 1000000000000) :
    Calls Tryz.prog 80 #[tblptr b, .int .i64 id] w fun e w' =>
      e = .returned (match T.findS id with | some o => .tuple #[.string o.key, .int .i64 (id - 16 * o.id), .bool true] | none => .tuple #[.string ByteArray.empty, .int .i64 0, .bool false]) ∧ Below w.heap.size w w' := by
  obtain ⟨stv, n, E, h⟩ := h
  have c2 : w.cell? ⟨b, 2, none⟩ = some (.map (some mb)) := by rw [cell_of_blk h.blk]; rfl
  have hown := h.own
  have H := Lib.hid h
  obtain ⟨R, hR⟩ : ∃ R : Value, (match T.findS id with | some o => .tuple #[.string o.key, .int .i64 (id - 16 * o.id), .bool true] | none => .tuple #[.string ByteArray.empty, .int .i64 0, .bool false]) = R := ⟨_, rfl⟩
  rw [hR]
  replace hR := Lib.hid hR
  have OK := Lib.hid ok
  clear h ok
  unfold tblptr
  go_enter Tryz.func80, Tryz.ntmps80
  go_wp2_with (at_range; refine wpList_range_own _ rfl _ 128 rfl 9 32 Tryz.strK Tryz.underlying128 _ mb n _ rfl hown ?_; intro w0 hrg0 hg0 hs0)
  go_frame
  go_loopw [8] (fun _ wr => ∃ (left : Lit → Bool) (cnt : Nat), wr.ranges Tryz.prog 9 objR mb w.heap.size n (dat E) left cnt ∧ Below w.heap.size w wr ∧ ∀ p ∈ E, left (keyLit p.1.key) = false → hits id p.1 = false) (fun _ wr => wr.rangeLeft mb w.heap.size)
  case atStart =>
    refine ⟨_, _, hrg0, ?_, fun p hp hl => ?_⟩
    · exact (Chg.of_grown (O := fun _ => False) hg0 (fun k hk => by cases hk)).to_below (Nat.le_refl _) (fun _ x => x.elim)
    · rw [has_dat] at hl
      have := List.any_eq_false.1 hl p hp
      simp at this
  case round =>
    obtain ⟨left, cnt, hrg, hB, hno⟩ := hrel
    have hno' := Lib.hid hno
    clear hno
    go_wp2_with (at_next; refine wpList_next_ranges _ rfl _ rfl 9 Tryz.strK objR Value.string rawV inv_key inv_val mb w.heap.size n _ _ _ rfl hrg ?_ ?_)
    · intro _ hl0
      have hfin : R = .tuple #[.string ByteArray.empty, .int .i64 0, .bool false] := by
        have : T.findS id = none := by
          unfold TabM.findS
          rw [List.find?_eq_none, ← H.out.objs]
          intro o ho
          obtain ⟨p, hp, rfl⟩ := List.mem_map.1 ho
          simp [hno'.out p hp (hl0 _)]
        rw [← hR.out, this]
      subst hfin
      go_wp2
      go_ret3
      exact ⟨rfl, hB⟩
    · intro x c kl yd yp w1 cnt1 hkey hlk hv hat hrg1 hlt hg1 hs1 hen
      obtain ⟨hkl, p, hp, hpk, hce⟩ := came hkey hv hat
      obtain ⟨hck, hci, -, hcv⟩ := raw_eq hce
      have hst := H.out.strs p hp
      obtain ⟨ck, ci, cz, cA, cn, cc⟩ := c
      have hB1 : Below w.heap.size w w1 := hB.trans ((Chg.of_grown (O := fun k => k = w.heap.size) hg1 (fun k hk => by cases hk; rfl)).to_below hB.size (fun k e => by rw [e]; exact Nat.le_refl _))
      unfold rawV at hen ⊢
      dsimp only at hen hci hck hcv ⊢
      rw [hcv] at hst
      have hcn := hst.cell.1
      have hob := OK.out.objs p.1 (by rw [← H.out.objs]; exact List.mem_map.2 ⟨p, hp, rfl⟩)
      have hrng := hob.id
      have hfew := hob.few OK.out.k.1
      rw [← hci] at hrng
      rw [← hcn] at hfew
      have hhit : hits id p.1 = (decide (0 ≤ id - 16 * ci) && decide (id - 16 * ci < (cn : Int))) := by unfold hits; rw [hci, hcn]
      have hrg2 := Lib.hid (hrg1.alloc (.cells #[.string ck, .int .i64 ci, .int .i64 cz, .slice cA cn cc] 32))
      have hrg0 := Lib.hid hrg
      have hfd : hits id p.1 = true → R = .tuple #[.string x, .int .i64 (id - 16 * ci), .bool true] := by
        intro hh
        rw [← hR.out, OK.out.found (by rw [← H.out.objs]; exact List.mem_map.2 ⟨p, hp, rfl⟩) hh]
        dsimp only
        rw [hci, hpk]
      replace hfd := Lib.hid hfd
      replace hhit := Lib.hid hhit
      replace hkl := Lib.hid hkl
      replace hpk := Lib.hid hpk
      replace hB1 := Lib.hid hB1
      clear hs1 hrg1 hrg hat hkey hv hlk hce hg1 hB hci hck hcv hst hcn hob
      obtain ⟨d, hd⟩ : ∃ d : Int, id - 16 * ci = d := ⟨_, rfl⟩
      have hdr : -2000000000000 ≤ d ∧ d ≤ 2000000000000 := by omega
      rw [hd] at hhit hfd
      have hd' : Hid (id - 16 * ci = d) := Lib.hid hd
      clear hd
      by_cases h0 : 0 ≤ d
      · by_cases h1 : d < (cn : Int)
        · have hfin := hfd.out (by rw [hhit.out]; simp [h0, h1])
          rw [← hd'.out] at h0 h1
          subst hfin
          go_wp2
          go_ret3
          rw [hd'.out]
          exact ⟨rfl, hB1.out.alloc hB1.out.size _⟩
        · have hh : Hid (hits id p.1 = false) := Lib.hid (by rw [hhit.out]; simp; omega)
          rw [← hd'.out] at h0 h1
          go_wp2
          refine ⟨⟨_, cnt1, hrg2.out, hB1.out.alloc hB1.out.size _, fun p' hp' hl => ?_⟩, ?_⟩
          · rcases Bool.and_eq_false_iff.1 hl with h1 | h1
            · exact hno'.out p' hp' h1
            · rw [hkl.out, sameKey_lit] at h1
              have e1 : p'.1.key = x := by simpa using h1
              have : p' = p := H.out.nodup p' hp' p hp (by rw [e1, hpk.out])
              rw [this]; exact hh.out
          · rw [hrg2.out.left_eq, hrg0.out.left_eq]; exact hlt
      · have hh : Hid (hits id p.1 = false) := Lib.hid (by rw [hhit.out]; simp; omega)
        rw [← hd'.out] at h0
        go_wp2
        refine ⟨⟨_, cnt1, hrg2.out, hB1.out.alloc hB1.out.size _, fun p' hp' hl => ?_⟩, ?_⟩
        · rcases Bool.and_eq_false_iff.1 hl with h1 | h1
          · exact hno'.out p' hp' h1
          · rw [hkl.out, sameKey_lit] at h1
            have e1 : p'.1.key = x := by simpa using h1
            have : p' = p := H.out.nodup p' hp' p hp (by rw [e1, hpk.out])
            rw [this]; exact hh.out
        · rw [hrg2.out.left_eq, hrg0.out.left_eq]; exact hlt
end Go.Proofs.YtblddkjdglliaaaGreatDoor
namespace Go.Proofs.YtblddkjdglliaaaGreatDoor
open Go.RowKit Go.Maps

def TabM.get (T : TabM) (key : ByteArray) : Option ObjM := T.objs.find? fun o => decide (o.key = key)
theorem TabOk.strs {T : TabM} (h : TabOk T) {o : ObjM} (ho : o ∈ T.objs) : o.strs.length ≤ 12 ∧ ∀ s ∈ o.strs, s.locs.length ≤ 7 := by
  have a := h.objs o ho
  refine ⟨a.few h.k.1, fun s hs => ?_⟩
  obtain ⟨i, hi, rfl⟩ := List.getElem_of_mem hs
  have b := (a.ids i _ (List.getElem?_eq_getElem hi)).2
  rw [b.len]
  have := h.k; have := h.m; omega
/-- The looked-up value of a key. -/
theorem looked {w : World} {b mb : Nat} {T : TabM} {stv : Value} {n : Nat} {E : EL} (h : IsTabE w b mb T stv n E) (key : ByteArray) {v : Value} {ps : List MemPlace}
    (hv : objR v = some ((dat E).atKey (keyLit key) (.held (objV .zero (.slice none 0 0))), ps)) :
    ∃ A m c, v = objV ((T.get key).getD .zero) (.slice A m c) ∧ HS w 0 (.slice A m c) ((T.get key).getD .zero).strs := by
  rw [atKey_dat] at hv
  have hg : T.get key = (E.find? fun p => decide (p.1.key = key)).map (·.1) := by
    unfold TabM.get
    rw [← h.objs, List.find?_map]
    rfl
  obtain ⟨_, _, _, A, m, c, hvv, hy⟩ := objR_inv hv
  cases hf : E.find? (fun p => decide (p.1.key = key)) with
  | none =>
    rw [hf] at hv hg hy
    simp only [Prod.mk.injEq, DataW.held.injEq] at hy
    refine ⟨none, 0, 0, ?_, ?_⟩
    · rw [hg]; exact hy.1.symm
    · rw [hg]; exact HS.nil _ _
  | some p =>
    rw [hf] at hv hg hy
    simp only [Prod.mk.injEq, DataW.held.injEq] at hy
    have hp := List.mem_of_find?_eq_some hf
    have hS := h.strs p hp
    obtain ⟨A', m', c', e⟩ := hS.shape
    refine ⟨A', m', c', ?_, ?_⟩
    · rw [hg]; rw [← hy.1, e]; rfl
    · rw [hg, ← e]; exact hS
theorem has_get {w : World} {b mb : Nat} {T : TabM} {stv : Value} {n : Nat} {E : EL} (h : IsTabE w b mb T stv n E) (key : ByteArray) : Maps.has (dat E) (keyLit key) = (T.get key).isSome := by
  rw [has_dat]
  unfold TabM.get
  rw [← h.objs, List.find?_map, Option.isSome_map, Bool.eq_iff_iff, List.any_eq_true, List.find?_isSome]
  rfl

set_option maxRecDepth 100000 in
set_option maxHeartbeats 1000000 in
theorem tobject_any (b mb : Nat) (T : TabM) (key : ByteArray) (w : World) (h : IsTab w b mb T) (ok : TabOk T) (hk : key.size ≤ 1000) :
    Calls Tryz.prog 71 #[tblptr b, .string key] w fun e w' => ∃ v', e = .returned (.tuple #[objV ((T.get key).getD .zero) v', .bool (T.get key).isSome]) ∧ HS w' w.heap.size v' ((T.get key).getD .zero).strs ∧ Below w.heap.size w w' := by
  obtain ⟨stv, n, E, h⟩ := h
  have c2 : w.cell? ⟨b, 2, none⟩ = some (.map (some mb)) := by rw [cell_of_blk h.blk]; rfl
  have hblt := blk_lt h.blk
  have hmlt := h.own.lt
  have hown := h.own.alloc (.cells #[.string ⟨#[]⟩, .int .i64 0, .int .i64 0, .slice none 0 0] 32)
  have hhas := has_get h key
  have hlook := fun v ps => looked (v := v) (ps := ps) h key
  have hfew : ((T.get key).getD .zero).strs.length ≤ 100 ∧ ∀ s ∈ ((T.get key).getD .zero).strs, s.locs.length ≤ 1000 := by
    cases hg : T.get key with
    | none => simp [ObjM.zero]
    | some o =>
      obtain ⟨h1, h2⟩ := ok.strs (List.mem_of_find?_eq_some hg)
      exact ⟨by show o.strs.length ≤ 100; omega, fun s hs => by have := h2 s hs; omega⟩
  have H := Lib.hid h
  replace hlook := Lib.hid hlook
  replace hhas := Lib.hid hhas
  replace hfew := Lib.hid hfew
  generalize (T.get key).getD .zero = o at *
  generalize (T.get key).isSome = ans at *
  have hkey : keyOf Tryz.prog 9 (.string key) = some (keyLit key) := WideMaps.keyOf_string_mk Tryz.underlying9 (by unfold maxLen; omega)
  replace hkey := Lib.hid hkey
  clear h ok
  unfold tblptr
  go_enter Tryz.func71, Tryz.ntmps71
  go_wp2_with (at_lookup; refine wpList_lookup_own_ok _ rfl _ _ 128 rfl 9 32 Tryz.strK Tryz.underlying128 objR (Tryz.zeroObj _) (.held (objV .zero (.slice none 0 0))) [] rfl mb n _ rfl hown _ _ rfl hkey.out ?_; intro v ps hv; obtain ⟨A, m, c, rfl, hS⟩ := hlook.out v ps hv; unfold objV; rw [hhas.out])
  obtain ⟨q, hq⟩ : ∃ q, w.heap.size = q := ⟨_, rfl⟩
  obtain ⟨W1, hW1⟩ : ∃ W, (w.alloc (.cells #[.string ⟨#[]⟩, .int .i64 0, .int .i64 0, .slice none 0 0] 32)).alloc (.cells #[.string o.key, .int .i64 o.id, .int .i64 o.size, .slice A m c] 32) = W := ⟨_, rfl⟩
  have hb1 : W1.heap[q]? = some (.cells #[.string ⟨#[]⟩, .int .i64 0, .int .i64 0, .slice none 0 0] 32 (0, 0)) := by rw [← hW1, ← hq]; exact blk_alloc (heap_alloc_new w _) _
  have hB1 : Below w.heap.size w W1 := by rw [← hW1]; exact ((Below.refl _ w).alloc (Nat.le_refl _) _).alloc (by simp) _
  rw [hW1]
  clear hW1
  have hS1 := hS.below hB1
  refine (recOwn_any o.key o.id o.size _ o.strs 0 W1 hS1 hfew.out.1 hfew.out.2).mono ?_
  rintro e W2 ⟨v2, rfl, hS2, hB2⟩
  obtain ⟨A2, m2, c2', rfl⟩ := hS2.shape
  have hb2 := below_blk hB2 hb1
  rw [hq] at hB1 ⊢
  have k0 : W2.cell? ⟨q, 0, none⟩ = some (.string ⟨#[]⟩) := by rw [cell_of_blk hb2]; rfl
  have k1 : W2.cell? ⟨q, 1, none⟩ = some (.int .i64 0) := by rw [cell_of_blk hb2]; rfl
  have k2 : W2.cell? ⟨q, 2, none⟩ = some (.int .i64 0) := by rw [cell_of_blk hb2]; rfl
  have k3 : W2.cell? ⟨q, 3, none⟩ = some (.slice none 0 0) := by rw [cell_of_blk hb2]; rfl
  have f0 := frozen_of_blk hb2 0
  have f1 := frozen_of_blk hb2 1
  have f2 := frozen_of_blk hb2 2
  have f3 := frozen_of_blk hb2 3
  have hB := Lib.hid (hB1.trans (hB2.mono (by rw [← hq]; rw [← hq] at hB1; exact hB1.size)))
  have HS2 := Lib.hid hS2
  replace hB1 := Lib.hid hB1
  have HB2 := Lib.hid hb2
  replace hq := Lib.hid hq
  clear hb1 hB2 hS1 hS hb2 hS2
  go_wp2
  refine bodyPost_ret (v := .tuple #[.agg #[.string o.key, .int .i64 o.id, .int .i64 o.size, .slice A2 m2 c2'], .bool ans]) (by simp [results, Tryz.results71, go_sem, k0, k1, k2, k3]) rfl ⟨_, rfl, ?_, ?_⟩
  · refine (HS2.out.chg (O := fun k => k = q) ((((Chg.refl (fun k => k = q) W2).then_setCell (a := ⟨q, 0, none⟩) (.inl rfl) _).then_setCell (a := ⟨q, 1, none⟩) (.inl rfl) _).then_setCell (a := ⟨q, 2, none⟩) (.inl rfl) _ |>.then_setCell (a := ⟨q, 3, none⟩) (.inl rfl) _) ?_).mono (hq.out ▸ hB1.out.size)
    rintro k cur t fr ht rfl e
    rw [HB2.out] at e; cases e; rcases ht with h | h <;> cases h
  · rw [hq.out]
    exact (((hB.out.setCell (p := ⟨q, 0, none⟩) (Nat.le_refl q) _).setCell (p := ⟨q, 1, none⟩) (Nat.le_refl q) _).setCell (p := ⟨q, 2, none⟩) (Nat.le_refl q) _).setCell (p := ⟨q, 3, none⟩) (Nat.le_refl q) _

set_option maxRecDepth 100000 in
set_option maxHeartbeats 1000000 in
theorem tstates_any (b mb : Nat) (T : TabM) (w : World) (h : IsTab w b mb T) (ok : TabOk T) :
    Calls Tryz.prog 109 #[tblptr b] w fun e w' => ∃ v', e = .returned v' ∧ HI w' v' T.states ∧ FreshV w.heap.size v' ∧ Below w.heap.size w w' := by
  obtain ⟨stv, n, E, h⟩ := h
  have c3 : w.cell? ⟨b, 3, none⟩ = some stv := by rw [cell_of_blk h.blk]; rfl
  have CL := clone_ints stv T.states w h.states (by have := ok.st.1; omega)
  obtain ⟨A, m, c, rfl⟩ := h.states.shape
  replace CL := Lib.hid CL
  clear h ok
  unfold tblptr
  go_enter Tryz.func109, Tryz.ntmps109
  go_wp2_with fail
  refine CL.out.mono ?_
  rintro e w1 ⟨v1, rfl, ho1, hB1⟩
  have hHI := HI.of_own ho1
  obtain ⟨A1, c1, rfl, h1, _⟩ := own_shape ho1
  have hF := FreshV.of_own ho1
  replace hHI := Lib.hid hHI
  replace hF := Lib.hid hF
  generalize hn : T.states.length = n1 at *
  replace hn := Lib.hid hn
  clear ho1
  go_wp2_with (go_at_call 91; refine (clip_int _ _ _ _ h1).mono ?_; rintro e w' ⟨rfl, rfl⟩)
  go_ret
  have hcl := hHI.out.clip n1 (Nat.le_refl _)
  rw [List.take_of_length_le (by rw [hn.out]; exact Nat.le_refl _)] at hcl
  refine ⟨_, rfl, hcl, ?_, hB1⟩
  intro x hx
  refine hF.out x ?_
  cases A1 with
  | none => simp [blkOf] at hx
  | some a => simpa [blkOf] using hx
end Go.Proofs.YtblddkjdglliaaaGreatDoor
namespace Go.Proofs.YtblddkjdglliaaaGreatDoor
open Go.RowKit Go.Sort

set_option maxRecDepth 100000 in
theorem collectI_any (b1 cap : Nat) (A : Option Addr) (xs : List Int) (w : World) (hB1 : b1 < w.heap.size) (hx : xs.length ≤ 60000)
    (h1 : w.heap[b1]? = some (.cells #[.slice A xs.length cap] 24 (0, 0))) (hR : InRow w.heap.size (fun _ => True) w A xs) :
    Calls Tryz.prog 178 #[.func (.func 180) #[] #[.pointer (some ⟨b1, 0, none⟩)]] w fun e W' =>
      ∃ v, e = .returned v ∧ W'.ownsRow w.heap.size 3 1 v xs.length (ints .i64 xs) ∧ Below w.heap.size w W' := by
  go_enter Tryz.func178, Tryz.ntmps178
  go_wp2_with (go_at_call 209; refine (appendSeqI_any b1 cap A xs _ hB1 hx h1 hR).mono ?_; rintro e w' ⟨v, rfl, hv, hB⟩; obtain ⟨A', c', rfl, _, _⟩ := own_shape hv)
  go_ret
  exact ⟨_, rfl, hv, hB⟩
def sortI (xs : List Int) : List Int := xs.mergeSort fun x y => decide (x ≤ y)
theorem sortI_length (xs : List Int) : (sortI xs).length = xs.length := List.length_mergeSort _
set_option maxRecDepth 100000 in
set_option maxHeartbeats 1000000 in
theorem sortedI_any (b1 cap : Nat) (A : Option Addr) (xs : List Int) (w : World) (hB1 : b1 < w.heap.size) (hx : xs.length ≤ 60000) (hx1 : 1 ≤ xs.length)
    (h1 : w.heap[b1]? = some (.cells #[.slice A xs.length cap] 24 (0, 0))) (hR : InRow w.heap.size (fun _ => True) w A xs) :
    Calls Tryz.prog 152 #[.func (.func 180) #[] #[.pointer (some ⟨b1, 0, none⟩)]] w fun e W' =>
      ∃ v, e = .returned v ∧ W'.ownsRow w.heap.size 3 1 v xs.length (ints .i64 (sortI xs)) ∧ Below w.heap.size w W' := by
  have CO := collectI_any b1 cap A xs w hB1 hx h1 hR
  replace CO := Lib.hid CO
  obtain ⟨n, hn⟩ : ∃ n, xs.length = n := ⟨_, rfl⟩
  have HN := Lib.hid hn
  rw [hn] at CO hx1 hx ⊢
  clear hn h1 hR
  go_enter Tryz.func152, Tryz.ntmps152
  go_wp2_with fail
  refine CO.out.mono ?_
  rintro e w1 ⟨v1, rfl, ho1, hB1'⟩
  obtain ⟨A1, c1, rfl, k1, k2⟩ := own_shape ho1
  obtain ⟨g, cur, rfl, _, hge, _, hb, hcs, htk, _⟩ := own_pos ho1 hx1
  rcases ho1.2 with ⟨hv, _⟩ | ⟨g', cap', cur', hv, hb0, hb', h3, h4, h5, h6⟩
  · cases hv
  simp only [Value.slice.injEq, Option.some.injEq, Addr.mk.injEq, true_and] at hv
  obtain ⟨⟨rfl, -⟩, rfl⟩ := hv
  have hsl : xs.length = n := HN.out
  have SO := Tryz.slices_Sort_int g 0 c1 xs w1 (holds_of_blockI hb' (by rw [hsl]; simpa [ints] using h6)) (blk_lt hb') (by omega)
  rw [hsl] at SO
  replace SO := Lib.hid SO
  have hfin : ∀ m os, (grow (putRow (Value.int .i64) (Sort.ahead w1 m) g 0 (sortI xs).toArray) os).ownsRow w.heap.size 3 1 (.slice (some ⟨g, 0, none⟩) n c1) n (ints .i64 (sortI xs)) := by
    intro m os
    have := ownsRow_sortedI (n := m) (os := os) (ss := xs) (ts := sortI xs) (sortI_length xs) hb0 hb' (by rw [hsl]; exact h3) h4 (by simpa using h5)
    rw [hsl] at this
    exact this
  have hbel : ∀ m os, Below w.heap.size w (grow (putRow (Value.int .i64) (Sort.ahead w1 m) g 0 (sortI xs).toArray) os) := by
    intro m os
    have hg := grownBy_sortedI (w := w1) (g := g) (n := m) (os := os) (sortI xs).toArray
    exact hB1'.trans ((Chg.of_grown (O := fun k => k = g) hg (fun k hk => by cases hk; rfl)).to_below hB1'.size (fun k e => by rw [e]; exact hb0))
  replace hfin := Lib.hid hfin
  replace hbel := Lib.hid hbel
  clear ho1 hb hcs htk hb' h5 h6 hsl
  go_wp2_with fail
  refine SO.out.mono ?_
  rintro e w2 ⟨rfl, m, os, rfl⟩
  have hf := Lib.hid (hfin.out m os)
  have hl := Lib.hid (hbel.out m os)
  change Hid ((grow (putRow (Value.int .i64) (Sort.ahead w1 m) g 0 (xs.mergeSort fun x y => decide (x ≤ y)).toArray) os).ownsRow _ _ _ _ _ _) at hf
  change Hid (Below _ _ (grow (putRow (Value.int .i64) (Sort.ahead w1 m) g 0 (xs.mergeSort fun x y => decide (x ≤ y)).toArray) os)) at hl
  generalize (grow (putRow (Value.int .i64) (Sort.ahead w1 m) g 0 (xs.mergeSort fun x y => decide (x ≤ y)).toArray) os) = W2 at *
  go_wp2
  go_ret
  exact ⟨_, rfl, hf.out, hl.out⟩

theorem compact_nd (zs : List Int) (h : zs.Nodup) : Lib.compact zs = zs := by
  unfold Lib.compact Lib.compactUpTo
  have hg : ∀ j (hj : j < zs.length), zs.toArray[j]! = zs[j] := fun j hj => by rw [getElem!_pos _ _ (by simpa using hj)]; simp
  have hk : (List.range zs.length).filter (Lib.keeps zs.toArray) = List.range zs.length := by
    rw [List.filter_eq_self]
    intro j hj
    have hj := List.mem_range.1 hj
    unfold Lib.keeps
    rw [decide_eq_true_eq]
    by_cases h0 : j = 0
    · exact .inl h0
    · refine .inr ?_
      rw [hg j hj, hg (j - 1) (by omega)]
      intro e
      exact List.pairwise_iff_getElem.1 h (j - 1) j (by omega) hj (by omega) e.symm
  rw [hk]
  apply List.ext_getElem (by simp)
  intro i h1 h2
  rw [List.getElem_map, List.getElem_range, hg i h2]
theorem sortI_perm (xs : List Int) : (sortI xs).Perm xs := List.mergeSort_perm _ _
theorem compactI_nd (g cap : Nat) (zs : List Int) (w : World) (hH : Holds (Value.int .i64) w g 0 zs.toArray) (hl : zs.length ≤ 60000) (hcap : zs.length ≤ cap) (hn : zs.Nodup) :
    Calls Tryz.prog 154 #[.slice (some ⟨g, 0, none⟩) zs.length cap] w fun e w' => e = .returned (.slice (some ⟨g, 0, none⟩) zs.length cap) ∧ ∃ m, w' = w.drewN m := by
  have h := Tryz.slices_Compact_int g 0 cap zs w hH (by omega) hcap
  rw [compact_nd zs hn] at h
  refine h.mono ?_
  rintro e w' ⟨rfl, q, rfl⟩
  refine ⟨rfl, q, ?_⟩
  rw [Nat.sub_self, List.replicate_zero, List.append_nil, putRow_self _ _ _ _ _ (fun j hj => by have := hH j hj; exact this)]
  rfl

set_option maxRecDepth 100000 in
set_option maxHeartbeats 1000000 in
theorem tstripe_ok (b mb : Nat) (T : TabM) (id ep : Int) (v : Value) (locs : List Int) (w : World) (h : IsTab w b mb T) (hk : 1 ≤ T.k ∧ T.k ≤ 4) (hm : T.m ≤ 3) (hv : HI w v locs) (ok : StrOk T.k T.m ⟨id, ep, locs⟩) :
    Calls Tryz.prog 123 #[tblptr b, .agg #[.int .i64 id, .int .i64 ep, v]] w fun e w' => e = .returned (.bool true) ∧ Below w.heap.size w w' := by
  obtain ⟨stv, nn, E, h⟩ := h
  have hep : 0 ≤ ep ∧ ep ≤ 1073741824 := ok.ep
  have hlen : locs.length = T.k + T.m := ok.len
  have hloc : ∀ d ∈ locs, 0 ≤ d ∧ d ≤ 11 := ok.loc
  have hnd : locs.Nodup := ok.nd
  obtain ⟨A, n, c, rfl⟩ := hv.shape
  have hn := hv.toC.cell.1
  generalize hK : T.k = K at *
  generalize hM : T.m = M at *
  have hbk := h.blk
  rw [hK, hM] at hbk
  have hblt := blk_lt hbk
  have hKM : n = K + M := by omega
  have HV := Lib.hid hv
  have HBK := Lib.hid hbk
  have HN := Lib.hid hn
  have HKM := Lib.hid hKM
  have hn7 : n ≤ 7 := by omega
  have hn1 : 1 ≤ n := by omega
  have VA := fun W => values_any A n c W
  have SO : Hid (∀ (b1 : Nat) W, b1 < W.heap.size → W.heap[b1]? = some (.cells #[.slice A n c] 24 (0, 0)) → InRow W.heap.size (fun _ => True) W A locs → Calls Tryz.prog 152 #[.func (.func 180) #[] #[.pointer (some ⟨b1, 0, none⟩)]] W fun e W' =>
      ∃ v, e = .returned v ∧ W'.ownsRow W.heap.size 3 1 v n (ints .i64 (sortI locs)) ∧ Below W.heap.size W W') := Lib.hid fun b1 W h1 h2 h3 => by
    have := sortedI_any b1 c A locs W h1 (by omega) (by omega) (by rw [← hn]; exact h2) h3
    rw [← hn] at this
    exact this
  replace VA := Lib.hid VA
  have hsl := sortI_length locs
  have hsp := sortI_perm locs
  have hsn : (sortI locs).Nodup := (hsp.nodup_iff).2 hnd
  have hsb : ∀ i, i < n → 0 ≤ (sortI locs)[i]?.getD 0 ∧ (sortI locs)[i]?.getD 0 ≤ 11 := by
    intro i hi
    have hi' : i < (sortI locs).length := by omega
    rw [List.getElem?_eq_getElem hi']
    exact hloc _ (hsp.mem_iff.1 (List.getElem_mem hi'))
  rw [← hn] at hsl
  generalize sortI locs = L at *
  replace hsl := Lib.hid hsl
  replace hsn := Lib.hid hsn
  replace hsb := Lib.hid hsb
  clear h ok hv hbk hK hM hlen hloc hnd hn hKM hsp
  unfold tblptr
  go_enter Tryz.func123, Tryz.ntmps123
  go_wp2_with fail
  obtain ⟨q, hq⟩ : ∃ q, w.heap.size = q := ⟨_, rfl⟩
  obtain ⟨W1, hW1⟩ : ∃ W, w.alloc (.cells #[.int .i64 id, .int .i64 ep, .slice A n c] 36) = W := ⟨_, rfl⟩
  have hs1 : W1.heap[q]? = some (.cells #[.int .i64 id, .int .i64 ep, .slice A n c] 36 (0, 0)) := by rw [← hW1, ← hq]; exact heap_alloc_new w _
  have hB1 : Below w.heap.size w W1 := by rw [← hW1]; exact (Below.refl _ w).alloc (Nat.le_refl _) _
  have hb1 := below_blk hB1 HBK.out
  rw [hW1, hq]
  have k1 : W1.cell? ⟨q, 1, none⟩ = some (.int .i64 ep) := by rw [cell_of_blk hs1]; rfl
  have k2 : W1.cell? ⟨q, 2, none⟩ = some (.slice A n c) := by rw [cell_of_blk hs1]; rfl
  have c0 : W1.cell? ⟨b, 0, none⟩ = some (.int .i64 K) := by rw [cell_of_blk hb1]; rfl
  have c1 : W1.cell? ⟨b, 1, none⟩ = some (.int .i64 M) := by rw [cell_of_blk hb1]; rfl
  have d1 : decide (ep < 0) = false := decide_eq_false (by omega)
  have d2 : decide (1073741824 < ep) = false := decide_eq_false (by omega)
  have e1 : IntKind.i64.wrap ((K : Int) + M) = (n : Int) := by rw [show (K : Int) + M = (n : Int) by have := HKM.out; omega]; exact IntWalk.i64_in _ (by omega)
  have hb1' := Lib.hid hb1
  have hq' := Lib.hid hq
  have hB1' := Lib.hid hB1
  have hV1 := Lib.hid (HV.out.below hB1)
  clear hW1 hs1 hb1 hq hB1 HV HBK
  go_quiet (fail)
  go_wp2_with fail
  refine (VA.out _).mono ?_
  rintro e w' ⟨rfl, rfl⟩
  obtain ⟨W2, hW2⟩ : ∃ W, (W1.drewN nq).alloc (.cells #[.slice A n c] 24) = W := ⟨_, rfl⟩
  have hB2 : Below W1.heap.size W1 W2 := by rw [← hW2]; exact (below_drewN' (Below.refl _ W1) nq).alloc (Nat.le_refl _) _
  have hs2 : W2.heap[W1.heap.size]? = some (.cells #[.slice A n c] 24 (0, 0)) := by rw [← hW2]; exact heap_alloc_new (W1.drewN nq) _
  have hr2 : InRow W2.heap.size (fun _ => True) W2 A locs := by
    intro hp
    obtain ⟨A', c', e, _, _, h3⟩ := hV1.out.below hB2
    simp only [Value.slice.injEq] at e
    obtain ⟨rfl, _, _⟩ := e
    obtain ⟨bb, o, cur, _, rfl, hbb, hcc⟩ := h3 hp
    exact ⟨bb, o, cur, rfl, trivial, blk_lt hbb, hbb, hcc⟩
  have S2 := SO.out _ W2 (blk_lt hs2) hs2 hr2
  rw [hW2]
  replace S2 := Lib.hid S2
  have hb2 := Lib.hid (below_blk hB2 hb1'.out)
  have hBw2 := Lib.hid (hB1'.out.trans (hB2.mono hB1'.out.size))
  clear hW2 hs2 hr2 hB2 SO VA
  go_wp2_with fail
  refine S2.out.mono ?_
  rintro e w3 ⟨v3, rfl, ho3, hB3⟩
  obtain ⟨A3, c3, rfl, k3, k4⟩ := own_shape ho3
  obtain ⟨g, cur, rfl, _, hge, _, hbg, hcs, htk, hcell⟩ := own_pos ho3 hn1
  have hb3 := below_blk hB3 hb2.out
  have m0 : w3.cell? ⟨b, 0, none⟩ = some (.int .i64 K) := by rw [cell_of_blk hb3]; rfl
  have m1 : w3.cell? ⟨b, 1, none⟩ = some (.int .i64 M) := by rw [cell_of_blk hb3]; rfl
  obtain ⟨p, hp⟩ : ∃ p, n - 1 = p := ⟨_, rfl⟩
  have g0 := hcell 0 (by omega)
  have g1 := hcell p (by omega)
  rw [ints_get _ _ _ (by rw [hsl.out]; omega)] at g0 g1
  have r0 := hsb.out 0 (by omega)
  have r1 := hsb.out p (by omega)
  have hH3 : Holds (Value.int .i64) w3 g 0 L.toArray := holds_of_blockI hbg (by rw [hsl.out]; simpa [ints] using htk)
  have CP := fun N => compactI_nd g c3 L (w3.drewN N) (fun j hj => hH3 j hj) (by rw [hsl.out]; omega) (by rw [hsl.out]; exact k3) hsn.out
  rw [hsl.out] at CP
  generalize L[0]?.getD 0 = x0 at *
  generalize L[p]?.getD 0 = x1 at *
  have i1 : IntKind.i64.wrap ((n : Int) - 1) = (p : Int) := by rw [show (n : Int) - 1 = (p : Int) by omega]; exact IntWalk.i64_in _ (by omega)
  have hpn : p < n := by omega
  have hpI : (0 : Int) ≤ p ∧ (p : Int) < n := by omega
  have d3 : decide (0 ≤ x0) = true := decide_eq_true r0.1
  have d4 : decide (x1 < 12) = true := decide_eq_true (by omega)
  have hBf := Lib.hid (hBw2.out.trans (hB3.mono hBw2.out.size))
  replace CP := Lib.hid CP
  have d5 : ((n : Int) == (n : Int)) = true := by simp
  have hzn : (0 : Int) < n := by omega
  clear hb3 hbg hcs htk hcell ho3 hB3 hH3 hp
  go_wp2_with fail
  go_quiet ((go_at_call 154; exact quiet_one (CP.out _)))
  go_wp2
  go_ret
  exact ⟨rfl, below_drewN' hBf.out _⟩
end Go.Proofs.YtblddkjdglliaaaGreatDoor
namespace Go.Proofs.YtblddkjdglliaaaGreatDoor
open Go.RowKit Go.Maps

theorem HS.get {w : World} {B : Nat} {A : Option Addr} {n c : Nat} {l : List StripeM} (h : HS w B (.slice A n c) l) (i : Nat) (hi : i < n) : ∃ b u, A = some ⟨b, 0, none⟩ ∧ w.cell? ⟨b, i * 3, none⟩ = some (.int .i64 (l[i]?.getD .zero).id) ∧ w.cell? ⟨b, i * 3 + 1, none⟩ = some (.int .i64 (l[i]?.getD .zero).epoch) ∧ w.cell? ⟨b, i * 3 + 2, none⟩ = some u ∧ HI w u (l[i]?.getD .zero).locs := h.cell.2.2.2 i hi

theorem count_eq (K sz : Nat) (hk : 1 ≤ K) : (sz + K * 8 - 1) / (K * 8) = countN K sz := by
  unfold countN
  by_cases h : sz = 0
  · rw [if_pos h]; subst h; rw [Nat.zero_add]; exact Nat.div_eq_of_lt (by omega)
  · rw [if_neg h]
    have : sz + K * 8 - 1 = (sz - 1) + K * 8 := by omega
    rw [this, Nat.add_div_right _ (by omega)]

set_option maxRecDepth 100000 in
set_option maxHeartbeats 1000000 in
theorem tobj_ok (b mb : Nat) (T : TabM) (o : ObjM) (v : Value) (w : World) (h : IsTab w b mb T) (hk : 1 ≤ T.k ∧ T.k ≤ 4) (hm : T.m ≤ 3) (hv : HS w 0 v o.strs) (ok : ObjOk T.k T.m o) :
    Calls Tryz.prog 121 #[tblptr b, objV o v] w fun e w' => e = .returned (.bool true) ∧ Below w.heap.size w w' := by
  have H := Lib.hid h
  obtain ⟨stv, nn, E, h⟩ := h
  obtain ⟨key, id, size, strs⟩ := o
  have hkey : 1 ≤ key.size ∧ key.size ≤ 16 := ok.key
  have hid : 1 ≤ id ∧ id ≤ 33554432 := ok.id
  have hsz : 0 ≤ size ∧ size ≤ 96 := ok.size
  have hcnt : strs.length = countN T.k size.toNat := ok.cnt
  have hids : ∀ (i : Nat) s, strs[i]? = some s → s.id = 16 * id + i ∧ StrOk T.k T.m s := ok.ids
  obtain ⟨sz, rfl⟩ : ∃ sz : Nat, size = sz := ⟨size.toNat, by omega⟩
  have hfew := ok.few hk.1
  replace hfew : strs.length ≤ 12 := hfew
  obtain ⟨A, n, c, rfl⟩ := hv.shape
  have hn : n = strs.length := hv.cell.1
  rw [Int.toNat_natCast, ← count_eq T.k sz hk.1] at hcnt
  have HV := Lib.hid hv
  have TS := fun W v s hB hv ok => tstripe_ok b mb T s.id s.epoch v s.locs W (H.out.below (w' := W) hB) hk hm hv (ok : StrOk T.k T.m s)
  replace TS := Lib.hid TS
  obtain ⟨K, hK⟩ : ∃ K, T.k = K := ⟨_, rfl⟩
  have hbk := h.blk
  rw [hK] at hbk hk hcnt
  have HBK := Lib.hid hbk
  have hblt := blk_lt hbk
  have HN := Lib.hid hn
  have HIDS := Lib.hid hids
  obtain ⟨kk, hkk⟩ : ∃ kk : Nat, K * 8 = kk := ⟨_, rfl⟩
  rw [hkk, ← hn] at hcnt
  have hkkr : 8 ≤ kk ∧ kk ≤ 32 := by omega
  have hkI : (1 : Int) ≤ K ∧ (K : Int) ≤ 4 := by omega
  have e1 : IntKind.i64.wrap ((K : Int) * 8) = (kk : Int) := by rw [show (K : Int) * 8 = (kk : Int) by omega]; exact IntWalk.i64_in _ (by omega)
  have e2 : IntKind.i64.wrap ((sz : Int) + kk) = ((sz + kk : Nat) : Int) := by rw [Int.natCast_add]; exact IntWalk.i64_in _ (by omega)
  obtain ⟨sk, hsk⟩ : ∃ sk : Nat, sz + kk = sk := ⟨_, rfl⟩
  rw [hsk] at e2 hcnt
  have e3 : IntKind.i64.wrap ((sk : Int) - 1) = ((sk - 1 : Nat) : Int) := by rw [show (sk : Int) - 1 = ((sk - 1 : Nat) : Int) by omega]; exact IntWalk.i64_in _ (by omega)
  have e4 : ((sk - 1 : Nat) : Int) / (kk : Int) = (n : Int) := by rw [hcnt, Int.natCast_ediv]
  have e8 : Int.tdiv ((sk - 1 : Nat) : Int) (kk : Int) = (n : Int) := by rw [← Int.ofNat_tdiv, ← hcnt]
  have e7 : IntKind.i64.wrap (n : Int) = (n : Int) := IntWalk.i64_in _ (by omega)
  obtain ⟨s1, hs1⟩ : ∃ s1 : Nat, sk - 1 = s1 := ⟨_, rfl⟩
  rw [hs1] at e3 e4 e8
  have hn12 : n ≤ 12 := by omega
  have hkks : (key.size : Int) < 1 ∨ True := .inr trivial
  clear h ok hv hbk hK hcnt hsk hs1 hkk hids hn hfew hk hm hkks
  obtain ⟨ks, hks⟩ : ∃ ks, key.size = ks := ⟨_, rfl⟩
  rw [hks] at hkey
  unfold tblptr objV
  dsimp only
  have c0 : w.cell? ⟨b, 0, none⟩ = some (.int .i64 K) := by rw [cell_of_blk HBK.out]; rfl
  have d1 : ((n : Int) == (n : Int)) = true := by simp
  go_enter Tryz.func121, Tryz.ntmps121
  go_wp2_with fail
  obtain ⟨q, hq⟩ : ∃ q, w.heap.size = q := ⟨_, rfl⟩
  obtain ⟨W1, hW1⟩ : ∃ W, w.alloc (.cells #[.string key, .int .i64 id, .int .i64 sz, .slice A n c] 32) = W := ⟨_, rfl⟩
  have hs1 : W1.heap[q]? = some (.cells #[.string key, .int .i64 id, .int .i64 sz, .slice A n c] 32 (0, 0)) := by rw [← hW1, ← hq]; exact heap_alloc_new w _
  have hB1 : Below w.heap.size w W1 := by rw [← hW1]; exact (Below.refl _ w).alloc (Nat.le_refl _) _
  rw [hW1, hq]
  have m1 : W1.cell? ⟨q, 1, none⟩ = some (.int .i64 id) := by rw [cell_of_blk hs1]; rfl
  have m2 : W1.cell? ⟨q, 2, none⟩ = some (.int .i64 sz) := by rw [cell_of_blk hs1]; rfl
  have m3 : W1.cell? ⟨q, 3, none⟩ = some (.slice A n c) := by rw [cell_of_blk hs1]; rfl
  have hq' := Lib.hid hq
  have hs1' := Lib.hid hs1
  have hB1' := Lib.hid hB1
  clear hW1 hs1 hq hB1
  go_quiet (fail)
  go_wp2_with fail
  obtain ⟨W2, hW2⟩ : ∃ W, W1.drewN nq = W := ⟨_, rfl⟩
  have hB2 := below_drewN' (Below.refl _ W1) nq
  rw [hW2] at hB2 ⊢
  clear hW2
  go_loopw [57] (fun i wr => ∃ k : Nat, k ≤ n ∧ i = .int .i64 k ∧ Below W1.heap.size W1 wr) (fun i _ => n - (intOf i).toNat)
  case atStart => exact ⟨0, by omega, rfl, hB2⟩
  case round =>
    obtain ⟨k, hk, rfl, hB⟩ := hrel
    have hBw := hB1'.out.trans (hB.mono hB1'.out.size)
    by_cases hlt : k < n
    · obtain ⟨bb, u, rfl, k0, k1, k2, hu⟩ := (HV.out.below hBw).get k hlt
      have hkl : k < strs.length := by rw [← HN.out]; exact hlt
      obtain ⟨hsid, hsok⟩ := HIDS.out k (strs[k]?.getD .zero) (by rw [List.getElem?_eq_getElem hkl]; rfl)
      generalize strs[k]?.getD .zero = s at *
      obtain ⟨sid, sep, sl⟩ := s
      dsimp only at k0 k1 k2 hu hsid hsok
      obtain ⟨Au, nu, cu, rfl⟩ := hu.shape
      have hblk := below_blk hB hs1'.out
      have j1 : wr.cell? ⟨q, 1, none⟩ = some (.int .i64 id) := by rw [cell_of_blk hblk]; rfl
      have hqw : q < wr.heap.size := blk_lt hblk
      have e5 : IntKind.i64.wrap (16 * id) = 16 * id := IntWalk.i64_in _ (by omega)
      have e6 : IntKind.i64.wrap (16 * id + k) = sid := by rw [hsid]; exact IntWalk.i64_in _ (by omega)
      have d2 : (sid == sid) = true := by simp
      have TC := fun W (hB : Below wr.heap.size wr W) => TS.out W (.slice Au nu cu) ⟨sid, sep, sl⟩ (hBw.trans (hB.mono hBw.size)) (hu.below hB) hsok
      replace TC := Lib.hid TC
      clear hsid hsok hu hkl hblk
      go_wp2_with fail
      refine (TC.out _ ((Below.refl _ wr).alloc (Nat.le_refl _) _)).mono ?_
      rintro e w' ⟨rfl, hB'⟩
      have hBf : Below W1.heap.size W1 w' := hB.trans (((Below.refl _ wr).alloc (Nat.le_refl _) _ |>.trans (hB'.mono (by simp))).mono hB.size)
      replace hBf := Lib.hid hBf
      clear hB'
      go_wp2
      exact ⟨⟨k + 1, by omega, by go_num, hBf.out⟩, by simp [intOf]; omega⟩
    · obtain rfl : k = n := by omega
      go_wp2
      go_ret
      exact ⟨rfl, hBw⟩
end Go.Proofs.YtblddkjdglliaaaGreatDoor
namespace Go.Proofs.YtblddkjdglliaaaGreatDoor
open Go.RowKit Go.Maps Go.WideElems

theorem own_tight {w : World} {mb n : Nat} {E : EL} (h : w.ownsMap Tryz.prog 9 objR mb n (dat E)) : w.ownsMap Tryz.prog 9 objR mb E.length (dat E) := by
  obtain ⟨es, clock, hb, F, hs, e⟩ := h
  have e2 : E.length = es.size := by
    rw [← size_dat, e]
    exact length_read es
  exact ⟨es, clock, hb, F, by omega, e⟩
theorem chg_setBlock {w : World} {b : Nat} {es es' : Array MapEntry} {clock clock' : Nat} (hb : w.heap[b]? = some (.map es clock)) : Chg (fun k => k = b) w (Go.ChangeMaps.setBlock w b (.map es' clock')) :=
  ⟨rfl, rfl, rfl, by simp [Go.ChangeMaps.setBlock], fun k _ hn => Go.ChangeMaps.heap_setBlock_other hb _ hn⟩
set_option maxRecDepth 100000 in
/-- A map's element is set as a statement of two sets sets it: its place is looked up, then written. -/
theorem entry_own {w : World} {mb n : Nat} {E : EL} (h : w.ownsMap Tryz.prog 9 objR mb n (dat E)) (hn : n < maxLen) (o : ObjM) (A : Option Addr) (m c : Nat) (hk : o.key.size ≤ 1000) :
    ∃ (v0 : Value) (st : Nat) (W3 W4 : World), (Instr.mapEntry 128 (.map (some mb)) (.string o.key)).run Tryz.prog w = .ok (.tuple #[v0, .int .i64 st]) W3 ∧
      (Instr.entryStore 128 (.map (some mb)) (.int .i64 st) (objV o (.slice A m c))).run Tryz.prog W3 = .ok () W4 ∧
      W4.ownsMap Tryz.prog 9 objR mb (n + 1) (dat (putK keyP (o, .slice A m c) E)) ∧ Chg (fun k => k = mb) w W3 ∧ Chg (fun k => k = mb) w W4 := by
  have hkey : keyOf Tryz.prog 9 (.string o.key) = some (keyLit o.key) := WideMaps.keyOf_string_mk Tryz.underlying9 (by unfold maxLen; omega)
  obtain ⟨w', hrun, hown, ht⟩ := h.store Tryz.strK Tryz.underlying128 hn hkey (objR_mk o A m c)
  obtain ⟨es, clock, hb, F, hs, e⟩ := h
  obtain ⟨v0, st, es1, clock1, h1, _, h2⟩ := entry_then_store (WideMaps.string_law Tryz.underlying9) Tryz.underlying128 Tryz.zeroObj hb F hkey
  obtain ⟨es', clock', h3, h4⟩ := h2 _ (objV o (.slice A m c)) (Go.ChangeMaps.heap_setBlock_same hb (.map es1 clock1))
  refine ⟨v0, st, _, _, h1, h3, ?_, chg_setBlock hb, ?_⟩
  · rw [put_dat] at hown
    have : w' = Go.ChangeMaps.setBlock (Go.ChangeMaps.setBlock w mb (.map es1 clock1)) mb (.map es' clock') := by
      have h5 := hrun.symm.trans h4
      injection h5 with _ h6
      rw [h6]
      simp [Go.ChangeMaps.setBlock]
    rw [← this]
    exact hown
  · exact (chg_setBlock hb).trans (chg_setBlock (Go.ChangeMaps.heap_setBlock_same hb _)) (fun _ _ x => x)
theorem putK_len (x : ObjM × Value) (E : EL) : (putK keyP x E).length ≤ E.length + 1 := by
  unfold putK
  rw [(insK_perm keyP x _).length_eq, List.length_cons]
  have := List.length_filter_le (fun y : ObjM × Value => !decide (keyP y = keyP x)) E
  unfold delK
  omega
def TabM.put (T : TabM) (o : ObjM) : TabM := { T with objs := putK ObjM.key o T.objs, last := max T.last o.id }
def recV (kind id size : Int) (key : ByteArray) (sv dv : Value) : Value := .agg #[.int .i64 kind, .int .i64 id, .int .i64 size, .string key, sv, .slice none 0 0, dv]

def put11 : Op := .load 3 (.tmp 36)
attribute [local go_sem] put11
set_option maxRecDepth 100000 in
set_option maxHeartbeats 1000000 in
theorem tput_okE (b mb : Nat) (T : TabM) (o : ObjM) (v : Value) (w : World) (stv : Value) (nn : Nat) (E : EL) (hE0 : IsTabE w b mb T stv nn E) (hk : 1 ≤ T.k ∧ T.k ≤ 4) (hm : T.m ≤ 3) (hv : HS w 0 v o.strs) (ok : ObjOk T.k T.m o)
    (hnew : ∀ x ∈ T.objs, x.id ≠ o.id) (hfew : T.objs.length ≤ 999999) (_hlast : 0 ≤ T.last ∧ T.last ≤ 33554432) :
    Calls Tryz.prog 86 #[tblptr b, recV 1 o.id o.size o.key v (.slice none 0 0)] w fun e w' => ∃ v2, e = .returned (.bool true) ∧ IsTabE w' b mb (T.put o) stv (E.length + 1) (putK keyP (o, v2) E) ∧ HS w' w.heap.size v2 o.strs ∧ Chg (fun k => k = b ∨ k = mb) w w' := by
  have h : IsTab w b mb T := ⟨stv, nn, E, hE0⟩
  have H := Lib.hid hE0
  have hsf : o.strs.length ≤ 100 ∧ ∀ s ∈ o.strs, s.locs.length ≤ 1000 := by
    refine ⟨by have := ok.few hk.1; omega, fun s hs => ?_⟩
    obtain ⟨i, hi, rfl⟩ := List.getElem_of_mem hs
    have := (ok.ids i _ (List.getElem?_eq_getElem hi)).2.len
    omega
  have hks := ok.key
  have hids := ok.id
  obtain ⟨A, n, c, rfl⟩ := hv.shape
  have hno : (T.objs.any fun x => decide (x.id = o.id)) = false := by
    rw [List.any_eq_false]
    intro x hx
    simpa using hnew x hx
  have HV := Lib.hid hv
  have RO := fun W (hB : Below w.heap.size w W) => recOwn_any o.key o.id o.size _ o.strs 0 W (hv.below hB) hsf.1 hsf.2
  have OB := fun W v2 (hB : Below w.heap.size w W) (hv2 : HS W 0 v2 o.strs) => tobj_ok b mb T o v2 W (h.below hB) hk hm hv2 ok
  have HA := fun W (hB : Below w.heap.size w W) => has_any b mb T o.id W (h.below hB)
  rw [hno] at HA
  replace RO := Lib.hid RO
  replace OB := Lib.hid OB
  replace HA := Lib.hid HA
  have HF := Lib.hid hfew
  have OK := Lib.hid ok
  unfold objV tblptr at OB
  unfold tblptr at HA
  obtain ⟨ko, io, zo, so⟩ := o
  dsimp only at RO OB HA hks hids ⊢
  unfold tblptr recV
  clear h hE0 hv ok hno hnew hfew hsf
  go_enter Tryz.func86, Tryz.ntmps86
  go_wp2_with fail
  obtain ⟨W1, hW1⟩ : ∃ W, w.alloc (.cells #[.int .i64 1, .int .i64 io, .int .i64 zo, .string ko, .slice A n c, .slice none 0 0, .slice none 0 0] 85) = W := ⟨_, rfl⟩
  have hB1 : Below w.heap.size w W1 := by rw [← hW1]; exact (Below.refl _ w).alloc (Nat.le_refl _) _
  rw [hW1]
  clear hW1
  have hw1 := hB1.size
  refine (RO.out W1 hB1).mono ?_
  rintro e W2 ⟨v2, rfl, hS2, hB2⟩
  obtain ⟨A2, n2, c2, rfl⟩ := hS2.shape
  replace hS2 := Lib.hid hS2
  have hB12 := hB1.trans (hB2.mono hB1.size)
  clear hB2
  go_wp2_with fail
  obtain ⟨q, hq⟩ : ∃ q, W2.heap.size = q := ⟨_, rfl⟩
  obtain ⟨W3, hW3⟩ : ∃ W, W2.alloc (.cells #[.string ko, .int .i64 io, .int .i64 zo, .slice A2 n2 c2] 32) = W := ⟨_, rfl⟩
  have hs3 : W3.heap[q]? = some (.cells #[.string ko, .int .i64 io, .int .i64 zo, .slice A2 n2 c2] 32 (0, 0)) := by rw [← hW3, ← hq]; exact heap_alloc_new W2 _
  have hB3 : Below W2.heap.size W2 W3 := by rw [← hW3]; exact (Below.refl _ W2).alloc (Nat.le_refl _) _
  have hB13 := hB12.trans (hB3.mono hB12.size)
  have hqw : w.heap.size ≤ q := by rw [← hq]; exact hB12.size
  have hS3 := hS2.out.below hB3
  rw [hW3, hq]
  clear hW3 hB3 hq hS2 hB12
  refine (OB.out W3 _ hB13 (hS3.mono (Nat.zero_le _))).mono ?_
  rintro e W4 ⟨rfl, hB4⟩
  have hs4 := below_blk hB4 hs3
  have hS4 := hS3.below hB4
  have hB14 := hB13.trans (hB4.mono hB13.size)
  have g1 : W4.cell? ⟨q, 1, none⟩ = some (.int .i64 io) := by rw [cell_of_blk hs4]; rfl
  clear hs3 hS3 hB13 hB4 hB1
  replace hB14 := Lib.hid hB14
  replace hs4 := Lib.hid hs4
  replace hS4 := Lib.hid hS4
  go_wp2_with fail
  refine (HA.out W4 hB14.out).mono ?_
  rintro e W5 ⟨rfl, hB5⟩
  have hs5 := below_blk hB5 hs4.out
  have hS5 := hS4.out.below hB5
  have hB15 := hB14.out.trans (hB5.mono hB14.out.size)
  have h5 := H.out.below hB15
  have hown := own_tight h5.own
  have hEl : E.length = T.objs.length := by rw [← h5.objs, List.length_map]
  obtain ⟨v0, st, W6, W7, hE, hSt, hown7, hc6, hc7⟩ := entry_own (w := W5.drew) hown (by rw [hEl]; unfold maxLen; have := HF.out; omega) ⟨ko, io, zo, so⟩ A2 n2 c2 (by show ko.size ≤ 1000; omega)
  unfold objV at hSt
  dsimp only at hE hSt hown7
  have hmlt := hown.lt
  have hblk5 := h5.blk
  have hbm : b ≠ mb := by
    rintro rfl
    obtain ⟨es, clock, hb, _⟩ := h5.own
    rw [hblk5] at hb; cases hb
  have hqm : q ≠ mb := by
    rintro rfl
    obtain ⟨es, clock, hb, _⟩ := h5.own
    rw [hs5] at hb; cases hb
  have hblk6 := hc6.blk (o := .cells _ _ (0, 0)) hblk5 hbm
  have hblk7 := hc7.blk (o := .cells _ _ (0, 0)) hblk5 hbm
  have hs6 := hc6.blk (o := .cells _ _ (0, 0)) hs5 hqm
  have hs7 := hc7.blk (o := .cells _ _ (0, 0)) hs5 hqm
  have a2 : W5.drew.cell? ⟨b, 2, none⟩ = some (.map (some mb)) := (cell_of_blk (w := W5) hblk5 2).trans rfl
  have a5 : W5.drew.cell? ⟨b, 5, none⟩ = some (.int .i64 T.last) := (cell_of_blk (w := W5) hblk5 5).trans rfl
  have o0 : W5.drew.cell? ⟨q, 0, none⟩ = some (.string ko) := (cell_of_blk (w := W5) hs5 0).trans rfl
  have o1 : W5.drew.cell? ⟨q, 1, none⟩ = some (.int .i64 io) := (cell_of_blk (w := W5) hs5 1).trans rfl
  have o2 : W5.drew.cell? ⟨q, 2, none⟩ = some (.int .i64 zo) := (cell_of_blk (w := W5) hs5 2).trans rfl
  have o3 : W5.drew.cell? ⟨q, 3, none⟩ = some (.slice A2 n2 c2) := (cell_of_blk (w := W5) hs5 3).trans rfl
  have a2' : W6.cell? ⟨b, 2, none⟩ = some (.map (some mb)) := (cell_of_blk hblk6 2).trans rfl
  have a5' : W6.cell? ⟨b, 5, none⟩ = some (.int .i64 T.last) := (cell_of_blk hblk6 5).trans rfl
  have o0' : W6.cell? ⟨q, 0, none⟩ = some (.string ko) := (cell_of_blk hs6 0).trans rfl
  have o1' : W6.cell? ⟨q, 1, none⟩ = some (.int .i64 io) := (cell_of_blk hs6 1).trans rfl
  have o2' : W6.cell? ⟨q, 2, none⟩ = some (.int .i64 zo) := (cell_of_blk hs6 2).trans rfl
  have o3' : W6.cell? ⟨q, 3, none⟩ = some (.slice A2 n2 c2) := (cell_of_blk hs6 3).trans rfl
  have z2 : W7.cell? ⟨b, 2, none⟩ = some (.map (some mb)) := (cell_of_blk hblk7 2).trans rfl
  have z5 : W7.cell? ⟨b, 5, none⟩ = some (.int .i64 T.last) := (cell_of_blk hblk7 5).trans rfl
  have y0 : W7.cell? ⟨q, 0, none⟩ = some (.string ko) := (cell_of_blk hs7 0).trans rfl
  have y1 : W7.cell? ⟨q, 1, none⟩ = some (.int .i64 io) := (cell_of_blk hs7 1).trans rfl
  have y2 : W7.cell? ⟨q, 2, none⟩ = some (.int .i64 zo) := (cell_of_blk hs7 2).trans rfl
  have y3 : W7.cell? ⟨q, 3, none⟩ = some (.slice A2 n2 c2) := (cell_of_blk hs7 3).trans rfl
  have z5f := frozen_of_blk hblk7 5
  have hbq : q ≠ b := by rintro rfl; rw [hs5] at hblk5; cases hblk5
  have hblk8 := blk_setCell hblk7 5 (.int .i64 (max T.last io))
  have hs8 := blk_setCell_ne hs7 (a := ⟨b, 5, none⟩) hbq (.int .i64 (max T.last io))
  have u2 : (W7.setCell ⟨b, 5, none⟩ (.int .i64 (max T.last io))).cell? ⟨b, 2, none⟩ = some (.map (some mb)) := (cell_of_blk hblk8 2).trans rfl
  have x0 : (W7.setCell ⟨b, 5, none⟩ (.int .i64 (max T.last io))).cell? ⟨q, 0, none⟩ = some (.string ko) := (cell_of_blk hs8 0).trans rfl
  have x1 : (W7.setCell ⟨b, 5, none⟩ (.int .i64 (max T.last io))).cell? ⟨q, 1, none⟩ = some (.int .i64 io) := (cell_of_blk hs8 1).trans rfl
  have x2 : (W7.setCell ⟨b, 5, none⟩ (.int .i64 (max T.last io))).cell? ⟨q, 2, none⟩ = some (.int .i64 zo) := (cell_of_blk hs8 2).trans rfl
  have x3 : (W7.setCell ⟨b, 5, none⟩ (.int .i64 (max T.last io))).cell? ⟨q, 3, none⟩ = some (.slice A2 n2 c2) := (cell_of_blk hs8 3).trans rfl
  have hfin : (IsTabE (W7.setCell ⟨b, 5, none⟩ (.int .i64 (max T.last io))) b mb (T.put ⟨ko, io, zo, so⟩) stv (E.length + 1) (putK keyP (⟨ko, io, zo, so⟩, .slice A2 n2 c2) E) ∧ HS (W7.setCell ⟨b, 5, none⟩ (.int .i64 (max T.last io))) w.heap.size (.slice A2 n2 c2) so) ∧ Chg (fun k => k = b ∨ k = mb) w (W7.setCell ⟨b, 5, none⟩ (.int .i64 (max T.last io))) := by
    have hch5 : Chg (fun k => k = b ∨ k = mb) W5 (W7.setCell ⟨b, 5, none⟩ (.int .i64 (max T.last io))) :=
      (((Chg.drew (O := fun k => k = b ∨ k = mb) W5).trans hc7 (fun _ _ e => .inr e)).then_setCell (.inl (.inl rfl)) _)
    have hch : Chg (fun k => k = b ∨ k = mb) w (W7.setCell ⟨b, 5, none⟩ (.int .i64 (max T.last io))) :=
      (Chg.of_below (O := fun k => k = b ∨ k = mb) hB15).trans hch5 (fun _ _ e => e)
    have hty : ∀ (k : Nat) (cur : Array Value) (t : TypeId) (fr : Nat × Nat), t = 3 ∨ t = 36 → (k = b ∨ k = mb) → W5.heap[k]? ≠ some (.cells cur t fr) := by
      rintro k cur t fr ht (rfl | rfl) e
      · rw [hblk5] at e; cases e; rcases ht with h | h <;> cases h
      · obtain ⟨es, clock, hb, _⟩ := h5.own
        rw [e] at hb; cases hb
    refine ⟨⟨⟨?_, ?_, ?_, ?_, ?_, ?_⟩, (hS5.chg hch5 hty).mono hw1⟩, ?_⟩
    · exact hblk8
    · exact hown7.setCell (a := ⟨b, 5, none⟩) (Ne.symm hbm) _
    · have := HF.out; omega
    · show (putK keyP _ E).map (·.1) = putK ObjM.key _ T.objs
      rw [← h5.objs]
      exact putK_map ObjM.key (·.1) _ E
    · intro p hp
      rcases (mem_putK _ _ _ _).1 hp with rfl | ⟨hp, _⟩
      · exact (hS5.chg hch5 hty).mono (Nat.zero_le _)
      · exact (h5.strs p hp).chg hch5 hty
    · exact h5.states.chg hch5 fun k cur fr ho => hty k cur _ fr (.inl rfl) ho
    · exact hch
  replace hfin := Lib.hid hfin
  clear hk hm h5 hown hEl hown7 hc6 hc7 hmlt hblk5 hbm hqm hblk6 hblk7 hs6 hs7 hS5 hblk8 hs8 hbq hB15 hB5 hs5
  go_wp2_with fail
  rw [show Op.load 3 (.tmp 36) = put11 from rfl]
  go_region_held3 (fun w' => w'.cell? ⟨b, 2, none⟩ = some (.map (some mb)) ∧ w'.cell? ⟨q, 0, none⟩ = some (.string ko) ∧ w'.cell? ⟨q, 1, none⟩ = some (.int .i64 io) ∧ w'.cell? ⟨q, 2, none⟩ = some (.int .i64 zo) ∧ w'.cell? ⟨q, 3, none⟩ = some (.slice A2 n2 c2))
    (first | exact ⟨a2, o0, o1, o2, o3⟩ | exact ⟨a2', o0', o1', o2', o3'⟩ | exact ⟨z2, y0, y1, y2, y3⟩ | exact ⟨u2, x0, x1, x2, x3⟩ | go_keep) (fail)
  all_goals go_wp2
  all_goals (go_ret; exact ⟨_, rfl, hfin.out.1.1, hfin.out.1.2, hfin.out.2⟩)
theorem tput_ok (b mb : Nat) (T : TabM) (o : ObjM) (v : Value) (w : World) (h : IsTab w b mb T) (hk : 1 ≤ T.k ∧ T.k ≤ 4) (hm : T.m ≤ 3) (hv : HS w 0 v o.strs) (ok : ObjOk T.k T.m o)
    (hnew : ∀ x ∈ T.objs, x.id ≠ o.id) (hfew : T.objs.length ≤ 999999) (_hlast : 0 ≤ T.last ∧ T.last ≤ 33554432) :
    Calls Tryz.prog 86 #[tblptr b, recV 1 o.id o.size o.key v (.slice none 0 0)] w fun e w' => e = .returned (.bool true) ∧ IsTab w' b mb (T.put o) ∧ Chg (fun k => k = b ∨ k = mb) w w' := by
  obtain ⟨stv, nn, E, hE⟩ := h
  exact (tput_okE b mb T o v w stv nn E hE hk hm hv ok hnew hfew _hlast).mono fun e w' ⟨v2, h1, h2, _, h4⟩ => ⟨h1, ⟨stv, _, _, h2⟩, h4⟩
end Go.Proofs.YtblddkjdglliaaaGreatDoor
namespace Go.Proofs.YtblddkjdglliaaaGreatDoor
open Go.RowKit Go.Maps

theorem Tryz.funBad : ∀ A W, Sem.run Tryz.prog (callFunc 155 A) W = .ok (Next.enter 155 A) W := by intro A W; kernel_rfl
set_option maxRecDepth 100000 in
set_option maxHeartbeats 400000 in
theorem drives_ok (v : Value) (xs : List Int) (w : World) (h : HI w v xs) (hl : xs.length ≤ 12) (hx : ∀ x ∈ xs, 0 ≤ x ∧ x ≤ 2) :
    Calls Tryz.prog 124 #[v] w fun e w' => e = .returned (.bool true) ∧ w = w' := by
  obtain ⟨A, n, c, rfl⟩ := h.shape
  have hc := h.toC.cell
  have hn := hc.1
  have hcell : ∀ i, i < n → ∃ b o x, A = some ⟨b, o, none⟩ ∧ w.cell? ⟨b, o + i, none⟩ = some (.int .i64 x) ∧ 0 ≤ x ∧ x ≤ 2 := by
    obtain ⟨A', c', e, _, _, h3⟩ := h
    simp only [Value.slice.injEq] at e
    obtain ⟨rfl, _, _⟩ := e
    intro i hi
    obtain ⟨bb, o, cur, _, rfl, hbb, hcc⟩ := h3 (by omega)
    refine ⟨bb, o, xs[i]?.getD 0, rfl, by rw [cell_of_blk hbb]; exact hcc i (by omega), ?_⟩
    rw [List.getElem?_eq_getElem (by omega)]
    exact hx _ (List.getElem_mem _)
  have hn12 : n ≤ 12 := by omega
  clear h hc hn hl hx
  have CL : ∀ x : Int, 0 ≤ x ∧ x ≤ 2 → Calls Tryz.prog 155 #[.int .i64 x] w fun e w' => e = .returned (.bool false) ∧ w = w' := by
    intro x hx
    clear hcell
    have d1 : decide (x < 0) = false := decide_eq_false (by omega)
    have d2 : decide (2 < x) = false := decide_eq_false (by omega)
    go_enter Tryz.func155, Tryz.ntmps155
    go_wp2
    go_ret
    exact ⟨by simp, rfl⟩
  have IX : Calls Tryz.prog 181 #[.slice A n c, .func (.func 155) #[] #[]] w fun e w' => e = .returned (.int .i64 (-1)) ∧ w = w' := by
    have CL := Lib.hid CL
    go_enter Tryz.func181, Tryz.ntmps181
    go_wp2
    go_loop [8] (fun i => ∃ k : Nat, k ≤ n ∧ i = .int .i64 k) (fun i => n - (intOf i).toNat)
    case atStart => exact ⟨0, by omega, rfl⟩
    case round =>
      obtain ⟨k, hk, rfl⟩ := hrel
      by_cases hlt : k < n
      · obtain ⟨b, o, x, rfl, hu, hx⟩ := hcell k hlt
        clear hcell
        go_wp2_with (first | (go_at_call 155; refine (CL.out x hx).mono ?_; rintro e w' ⟨rfl, rfl⟩) | fail)
        exact ⟨⟨k + 1, by omega, by go_num⟩, by simp [intOf]; omega⟩
      · go_wp2
        go_ret
        exact ⟨rfl, rfl⟩
  have CF : Calls Tryz.prog 156 #[.slice A n c, .func (.func 155) #[] #[]] w fun e w' => e = .returned (.bool false) ∧ w = w' := by
    clear hcell
    go_enter Tryz.func156, Tryz.ntmps156
    go_wp2_with (go_at_call 181; refine IX.mono ?_; rintro e w' ⟨rfl, rfl⟩)
    go_ret
    exact ⟨rfl, rfl⟩
  clear hcell IX CL
  go_enter Tryz.func124, Tryz.ntmps124
  go_wp2_with (go_at_call 156; refine CF.mono ?_; rintro e w' ⟨rfl, rfl⟩)
  go_ret
  exact ⟨rfl, rfl⟩

def TabM.pool (T : TabM) (id : Int) (sts : List Int) : TabM := { T with states := sts, epoch := id }
set_option maxRecDepth 100000 in
set_option maxHeartbeats 1000000 in
theorem tpool_ok (b mb : Nat) (T : TabM) (id : Int) (v : Value) (sts : List Int) (w : World) (h : IsTab w b mb T) (hep : T.epoch = id - 1) (hid : 1 ≤ id ∧ id ≤ 1073741824) (hv : HI w v sts) (hl : sts.length ≤ 12) (hx : ∀ x ∈ sts, 0 ≤ x ∧ x ≤ 2) (hmore : T.states.length ≤ sts.length) :
    Calls Tryz.prog 89 #[tblptr b, .agg #[.int .i64 4, .int .i64 id, .int .i64 0, .string ByteArray.empty, .slice none 0 0, .slice none 0 0, v]] w fun e w' => e = .returned (.bool true) ∧ IsTab w' b mb (T.pool id sts) ∧ Chg (fun k => k = b) w w' := by
  have H := Lib.hid h
  obtain ⟨stv, nn, E, h⟩ := h
  obtain ⟨A, n, c, rfl⟩ := hv.shape
  have hn := hv.toC.cell.1
  obtain ⟨A0, n0, c0, rfl⟩ := h.states.shape
  have hn0 := h.states.toC.cell.1
  have hle : (n0 : Int) ≤ n := by omega
  have hlt : decide ((n : Int) < (n0 : Int)) = false := decide_eq_false (by omega)
  have a3 : w.cell? ⟨b, 3, none⟩ = some (.slice A0 n0 c0) := by rw [cell_of_blk h.blk]; rfl
  have a4 : w.cell? ⟨b, 4, none⟩ = some (.int .i64 (id - 1)) := by rw [cell_of_blk h.blk, ← hep]; rfl
  have e1 : IntKind.i64.wrap id = id := IntWalk.i64_in _ (by omega)
  have e2 : (id == id) = true := by simp
  have HV := Lib.hid hv
  have DR := fun W (hB : Below w.heap.size w W) => drives_ok _ sts W (hv.below hB) hl hx
  have CL := fun W (hB : Below w.heap.size w W) => clone_ints _ sts W (hv.below hB) (by omega)
  replace DR := Lib.hid DR
  replace CL := Lib.hid CL
  have hblt := blk_lt h.blk
  have hns : n0 ≤ 1000 ∧ n ≤ 1000 := by omega
  clear h hv hn hn0 hl hx hmore hep
  unfold tblptr
  go_enter Tryz.func89, Tryz.ntmps89
  go_wp2_with fail
  obtain ⟨q, hq⟩ : ∃ q, w.heap.size = q := ⟨_, rfl⟩
  obtain ⟨W1, hW1⟩ : ∃ W, w.alloc (.cells #[.int .i64 4, .int .i64 id, .int .i64 0, .string ByteArray.empty, .slice none 0 0, .slice none 0 0, .slice A n c] 85) = W := ⟨_, rfl⟩
  have hs1 : W1.heap[q]? = some (.cells #[.int .i64 4, .int .i64 id, .int .i64 0, .string ByteArray.empty, .slice none 0 0, .slice none 0 0, .slice A n c] 85 (0, 0)) := by rw [← hW1, ← hq]; exact heap_alloc_new w _
  have hB1 : Below w.heap.size w W1 := by rw [← hW1]; exact (Below.refl _ w).alloc (Nat.le_refl _) _
  change Code.wp _ _ _ _ (w.alloc (.cells #[.int .i64 4, .int .i64 id, .int .i64 0, .string ByteArray.empty, .slice none 0 0, .slice none 0 0, .slice A n c] 85))
  rw [hW1, hq]
  have m1 : W1.cell? ⟨q, 1, none⟩ = some (.int .i64 id) := by rw [cell_of_blk hs1]; rfl
  have m6 : W1.cell? ⟨q, 6, none⟩ = some (.slice A n c) := by rw [cell_of_blk hs1]; rfl
  have a3' := (hB1.cell (p := ⟨b, 3, none⟩) hblt).trans a3
  have a4' := (hB1.cell (p := ⟨b, 4, none⟩) hblt).trans a4
  have DR1 := fun N => DR.out (W1.drewN N) (below_drewN' hB1 N)
  have HQ := Lib.hid hq
  have HS1 := Lib.hid hs1
  have HB1 := Lib.hid hB1
  replace DR1 := Lib.hid DR1
  clear hq hW1 hs1 hB1 DR
  go_quiet ((go_at_call 124; exact quiet_same' (DR1.out _)))
  go_wp2_with fail
  obtain ⟨W2, hW2⟩ : ∃ W, W1.drewN nq = W := ⟨_, rfl⟩
  have hB2 : Below w.heap.size w W2 := by rw [← hW2]; exact below_drewN' HB1.out nq
  have hs2 : W2.heap[q]? = some (.cells #[.int .i64 4, .int .i64 id, .int .i64 0, .string ByteArray.empty, .slice none 0 0, .slice none 0 0, .slice A n c] 85 (0, 0)) := by rw [← hW2]; exact HS1.out
  rw [hW2]
  clear hW2 m1 m6 a3' a4'
  have n1 : W2.drew.cell? ⟨q, 1, none⟩ = some (.int .i64 id) := (cell_of_blk (w := W2) hs2 1).trans rfl
  have n6 : W2.drew.cell? ⟨q, 6, none⟩ = some (.slice A n c) := (cell_of_blk (w := W2) hs2 6).trans rfl
  obtain ⟨stv', nn', E', h2⟩ := H.out.below hB2
  have hblk2 := h2.blk
  have hqb : q ≠ b := by
    intro e
    rw [e, hblk2] at hs2
    injection hs2 with e1
    injection e1 with _ e2
    exact absurd e2 (by decide)
  have CL2 := CL.out W2.drew (below_drew' hB2)
  replace CL2 := Lib.hid CL2
  replace hblk2 := Lib.hid hblk2
  replace h2 := Lib.hid h2
  replace hB2 := Lib.hid hB2
  replace hs2 := Lib.hid hs2
  clear CL DR1 hns hlt hle e2
  go_region_held3 (fun w' => w'.cell? ⟨q, 1, none⟩ = some (.int .i64 id) ∧ w'.cell? ⟨q, 6, none⟩ = some (.slice A n c))
    (first | exact ⟨n1, n6⟩ | exact ⟨(cell_of_blk hsA.out 1).trans rfl, (cell_of_blk hsA.out 6).trans rfl⟩ | exact ⟨(cell_of_blk (blk_setCell_ne hsA.out (a := ⟨b, 4, none⟩) hqb _) 1).trans rfl, (cell_of_blk (blk_setCell_ne hsA.out (a := ⟨b, 4, none⟩) hqb _) 6).trans rfl⟩ | exact ⟨(cell_of_blk (blk_setCell_ne (blk_setCell_ne hsA.out (a := ⟨b, 4, none⟩) hqb _) (a := ⟨b, 3, none⟩) hqb _) 1).trans rfl, (cell_of_blk (blk_setCell_ne (blk_setCell_ne hsA.out (a := ⟨b, 4, none⟩) hqb _) (a := ⟨b, 3, none⟩) hqb _) 6).trans rfl⟩ | go_keep)
    ((go_at_call 118; (with_reducible refine CL2.out.mono ?_); rintro e wA ⟨vA, rfl, hoA, hbA⟩; obtain ⟨AA, cA, rfl, _, _⟩ := own_shape hoA; have hsA := Lib.hid (below_blk hbA (show W2.drew.heap[q]? = _ from hs2.out)); have hblkA := Lib.hid (below_blk hbA (show W2.drew.heap[b]? = _ from hblk2.out)); have p3 := (cell_of_blk hblkA.out 3).trans rfl; have p4 := (cell_of_blk hblkA.out 4).trans rfl; have f3 := frozen_of_blk hblkA.out 3; have f4 := frozen_of_blk hblkA.out 4; replace hoA := Lib.hid hoA; replace hbA := Lib.hid hbA))
  all_goals go_wp2
  all_goals go_ret
  all_goals
    have hch : Chg (fun k => k = b) W2 ((wA.setCell ⟨b, 4, none⟩ (.int .i64 id)).setCell ⟨b, 3, none⟩ (.slice AA sts.length cA)) :=
      (((Chg.drew (O := fun k => k = b) W2).then_below hbA.out).then_setCell (.inl rfl) _).then_setCell (.inl rfl) _
    have hch2 : Chg (fun k => k = b) wA ((wA.setCell ⟨b, 4, none⟩ (.int .i64 id)).setCell ⟨b, 3, none⟩ (.slice AA sts.length cA)) :=
      ((Chg.refl (fun k => k = b) wA).then_setCell (.inl rfl) _).then_setCell (.inl rfl) _
    have hbm : mb ≠ b := by
      intro e
      obtain ⟨es, clock, hb, _⟩ := h2.out.own
      rw [e, hblk2.out] at hb; cases hb
    have hty : ∀ (w' : World), (∃ cs, w'.heap[b]? = some (.cells cs 130 (0, 0))) → ∀ (k : Nat) (cur : Array Value) (t : TypeId) (fr : Nat × Nat), t = 3 ∨ t = 36 → k = b → w'.heap[k]? ≠ some (.cells cur t fr) := by
      rintro w' ⟨cs, e0⟩ k cur t fr ht rfl e
      rw [e0] at e; cases e; rcases ht with h | h <;> cases h
    refine ⟨rfl, ⟨.slice AA sts.length cA, nn', E', ?_, own_map_chg h2.out.own hch hbm, h2.out.few, h2.out.objs, fun p hp => (h2.out.strs p hp).chg hch (hty _ ⟨_, hblk2.out⟩), ?_⟩, ?_⟩
    · exact blk_setCell (blk_setCell hblkA.out 4 (.int .i64 id)) 3 (.slice AA sts.length cA)
    · exact (HI.of_own hoA.out).chg hch2 fun k cur fr e => hty _ ⟨_, hblkA.out⟩ k cur _ fr (.inl rfl) e
    · exact (Chg.of_below (O := fun k => k = b) hB2.out).trans hch (fun _ _ e => e)

set_option maxRecDepth 100000 in
set_option maxHeartbeats 1000000 in
theorem tnew_any (w : World) : Calls Tryz.prog 43 #[.int .i64 2, .int .i64 1] w fun e w' => ∃ b mb, e = .returned (tblptr b) ∧ IsTab w' b mb ⟨2, 1, [], [], 0, 0⟩ ∧ w.heap.size ≤ b ∧ w.heap.size ≤ mb ∧ b < w'.heap.size ∧ Below w.heap.size w w' := by
  have hmm := @run_makeMap
  go_enter Tryz.func43, Tryz.ntmps43
  go_wp2
  go_ret
  refine ⟨w.heap.size + 1, w.heap.size, rfl, ⟨.slice none 0 0, 0, [], heap_alloc2_new w _ _, ⟨#[], 0, blk_alloc (heap_alloc_new w _) _, ?_, by simp, rfl⟩, by omega, rfl, by simp, ?_⟩, by omega, by omega, by simp, ((Below.refl _ w).alloc (Nat.le_refl _) _).alloc (by simp) _⟩
  · exact ⟨by simp, by simp [Go.MapKept.Stamped], by simp⟩
  · exact HI.nil _

set_option maxRecDepth 100000 in
set_option maxHeartbeats 1000000 in
theorem tapply_putE (b mb : Nat) (T : TabM) (o : ObjM) (v : Value) (w : World) (stv : Value) (nn : Nat) (E : EL) (h : IsTabE w b mb T stv nn E) (hk : 1 ≤ T.k ∧ T.k ≤ 4) (hm : T.m ≤ 3) (hv : HS w 0 v o.strs) (ok : ObjOk T.k T.m o)
    (hnew : ∀ x ∈ T.objs, x.id ≠ o.id) (hfew : T.objs.length ≤ 999999) (hlast : 0 ≤ T.last ∧ T.last ≤ 33554432) :
    Calls Tryz.prog 44 #[tblptr b, recV 1 o.id o.size o.key v (.slice none 0 0)] w fun e w' => ∃ v2, e = .returned (.int .i64 0) ∧ IsTabE w' b mb (T.put o) stv (E.length + 1) (putK keyP (o, v2) E) ∧ HS w' w.heap.size v2 o.strs ∧ Chg (fun k => k = b ∨ k = mb) w w' := by
  obtain ⟨A, n, c, rfl⟩ := hv.shape
  have PU := fun W (hB : Below w.heap.size w W) => tput_okE b mb T o _ W stv nn E (h.below hB) hk hm (hv.below hB) ok hnew hfew hlast
  replace PU := Lib.hid PU
  clear h hk hm hv ok hnew hfew hlast
  obtain ⟨ko, io, zo, so⟩ := o
  dsimp only at PU ⊢
  unfold tblptr recV at *
  go_enter Tryz.func44, Tryz.ntmps44
  go_wp2_with fail
  refine (PU.out _ ((Below.refl _ w).alloc (Nat.le_refl _) _)).mono ?_
  rintro e w' ⟨v2, rfl, hT, hS, hC⟩
  replace hT := Lib.hid hT
  have hS := Lib.hid (hS.mono (B' := w.heap.size) (by simp))
  have hC := Lib.hid ((Chg.alloc (O := fun k => k = b ∨ k = mb) w _).trans hC (fun _ _ e => e))
  clear PU
  go_wp2
  go_ret
  exact ⟨_, rfl, hT.out, hS.out, hC.out⟩

theorem tapply_put (b mb : Nat) (T : TabM) (o : ObjM) (v : Value) (w : World) (h : IsTab w b mb T) (hk : 1 ≤ T.k ∧ T.k ≤ 4) (hm : T.m ≤ 3) (hv : HS w 0 v o.strs) (ok : ObjOk T.k T.m o)
    (hnew : ∀ x ∈ T.objs, x.id ≠ o.id) (hfew : T.objs.length ≤ 999999) (hlast : 0 ≤ T.last ∧ T.last ≤ 33554432) :
    Calls Tryz.prog 44 #[tblptr b, recV 1 o.id o.size o.key v (.slice none 0 0)] w fun e w' => e = .returned (.int .i64 0) ∧ IsTab w' b mb (T.put o) ∧ Chg (fun k => k = b ∨ k = mb) w w' := by
  obtain ⟨stv, nn, E, hE⟩ := h
  exact (tapply_putE b mb T o v w stv nn E hE hk hm hv ok hnew hfew hlast).mono fun e w' ⟨v2, h1, h2, _, h4⟩ => ⟨h1, ⟨stv, _, _, h2⟩, h4⟩

set_option maxRecDepth 100000 in
set_option maxHeartbeats 1000000 in
theorem tapply_pool (b mb : Nat) (T : TabM) (id : Int) (v : Value) (sts : List Int) (w : World) (h : IsTab w b mb T) (hep : T.epoch = id - 1) (hid : 1 ≤ id ∧ id ≤ 1073741824) (hv : HI w v sts) (hl : sts.length ≤ 12) (hx : ∀ x ∈ sts, 0 ≤ x ∧ x ≤ 2) (hmore : T.states.length ≤ sts.length) :
    Calls Tryz.prog 44 #[tblptr b, .agg #[.int .i64 4, .int .i64 id, .int .i64 0, .string ByteArray.empty, .slice none 0 0, .slice none 0 0, v]] w fun e w' => e = .returned (.int .i64 0) ∧ IsTab w' b mb (T.pool id sts) ∧ Chg (fun k => k = b) w w' := by
  obtain ⟨A, n, c, rfl⟩ := hv.shape
  have PO := fun W (hB : Below w.heap.size w W) => tpool_ok b mb T id _ sts W (h.below hB) hep hid (hv.below hB) hl hx hmore
  replace PO := Lib.hid PO
  clear h hv hep hl hx hmore
  unfold tblptr at *
  go_enter Tryz.func44, Tryz.ntmps44
  go_wp2_with fail
  refine (PO.out _ ((Below.refl _ w).alloc (Nat.le_refl _) _)).mono ?_
  rintro e w' ⟨rfl, hT, hC⟩
  replace hT := Lib.hid hT
  have hC := Lib.hid ((Chg.alloc (O := fun k => k = b) w _).trans hC (fun _ _ e => e))
  clear PO
  go_wp2
  go_ret
  exact ⟨rfl, hT.out, hC.out⟩
end Go.Proofs.YtblddkjdglliaaaGreatDoor
