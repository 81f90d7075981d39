/- Words and small lemmas for all proofs of this seat: worlds that change in known blocks alone, slices that read as bytes, rows that the call owns. No condition. -/
import Derived.Test.YtblddkjdglliaaaGreatDoorProg
import Derived.WalkKit
import Derived.WalkSpells
import Derived.WalkLawsBesides
import Derived.Maps.AppendAt
import Derived.Lib.Hide
namespace Go.Proofs.YtblddkjdglliaaaGreatDoor
open Go.RowKit

/-! ### Worlds -/
/-- w' is w but for the blocks of O and new ones. -/
structure Chg (O : Nat → Prop) (w w' : World) : Prop where
  os : w'.os = w.os
  tape : w'.tape = w.tape
  output : w'.output = w.output
  size : w.heap.size ≤ w'.heap.size
  block : ∀ k, k < w.heap.size → ¬ O k → w'.heap[k]? = w.heap[k]?

theorem Chg.refl (O : Nat → Prop) (w : World) : Chg O w w := ⟨rfl, rfl, rfl, Nat.le_refl _, fun _ _ _ => rfl⟩
theorem Chg.mono {O O' : Nat → Prop} {w w' : World} (h : Chg O w w') (ho : ∀ k, k < w.heap.size → O k → O' k) : Chg O' w w' :=
  ⟨h.os, h.tape, h.output, h.size, fun k hk hn => h.block k hk fun x => hn (ho k hk x)⟩
theorem Chg.trans {O O' : Nat → Prop} {a b c : World} (h : Chg O a b) (k : Chg O' b c) (ho : ∀ i, i < a.heap.size → O' i → O i) : Chg O a c :=
  ⟨k.os.trans h.os, k.tape.trans h.tape, k.output.trans h.output, Nat.le_trans h.size k.size,
   fun i hi hn => (k.block i (Nat.lt_of_lt_of_le hi h.size) fun x => hn (ho i hi x)).trans (h.block i hi hn)⟩
theorem Chg.of_below {O : Nat → Prop} {w w' : World} (h : Below w.heap.size w w') : Chg O w w' := ⟨h.os, h.tape, h.output, h.size, fun k hk _ => h.block k hk⟩
theorem Chg.to_below {O : Nat → Prop} {w w' : World} {B : Nat} (h : Chg O w w') (hB : B ≤ w.heap.size) (ho : ∀ k, O k → B ≤ k) : Below B w w' :=
  ⟨h.os, h.tape, h.output, h.size, fun k hk => h.block k (by omega) fun x => by have := ho k x; omega⟩
theorem Chg.of_grown {O : Nat → Prop} {w w' : World} {r : Option Nat} (h : w.grownBy w' r) (hr : ∀ k, r = some k → O k) : Chg O w w' :=
  ⟨h.os, h.tape, h.output, h.size, fun k hk hn => h.block k hk fun e => hn (hr k e.symm)⟩
theorem Chg.setCell {O : Nat → Prop} {w : World} {a : Addr} (ho : O a.block) (v : Value) : Chg O w (w.setCell a v) :=
  ⟨rfl, rfl, rfl, by simp, fun k _ hn => Below.heap_setCell w a v k (fun e => hn (e ▸ ho))⟩
theorem Chg.alloc {O : Nat → Prop} (w : World) (o : Obj) : Chg O w (w.alloc o) := Chg.of_below ((Below.refl _ w).alloc (Nat.le_refl _) o)
theorem Chg.drew {O : Nat → Prop} (w : World) : Chg O w w.drew := ⟨rfl, rfl, rfl, Nat.le_refl _, fun _ _ _ => rfl⟩
theorem Chg.drewN {O : Nat → Prop} (w : World) (n : Nat) : Chg O w (w.drewN n) := ⟨rfl, rfl, rfl, Nat.le_refl _, fun _ _ _ => rfl⟩
theorem Chg.then_setCell {O : Nat → Prop} {w w' : World} (h : Chg O w w') {a : Addr} (ho : O a.block ∨ w.heap.size ≤ a.block) (v : Value) : Chg O w (w'.setCell a v) := by
  refine ⟨h.os, h.tape, h.output, by simpa using h.size, fun k hk hn => ?_⟩
  rw [Below.heap_setCell w' a v k (fun e => by rcases ho with x | x; exact hn (e ▸ x); omega)]
  exact h.block k hk hn
theorem Chg.then_alloc {O : Nat → Prop} {w w' : World} (h : Chg O w w') (o : Obj) : Chg O w (w'.alloc o) :=
  h.trans (Chg.alloc (O := fun _ => False) w' o) (fun _ _ x => x.elim)
theorem Chg.then_drew {O : Nat → Prop} {w w' : World} (h : Chg O w w') : Chg O w w'.drew := h.trans (Chg.drew (O := fun _ => False) w') (fun _ _ x => x.elim)
theorem Chg.then_drewN {O : Nat → Prop} {w w' : World} (h : Chg O w w') (n : Nat) : Chg O w (w'.drewN n) := h.trans (Chg.drewN (O := fun _ => False) w' n) (fun _ _ x => x.elim)
theorem Chg.then_below {O : Nat → Prop} {w w1 w2 : World} (h : Chg O w w1) (k : Below w1.heap.size w1 w2) : Chg O w w2 :=
  h.trans (Chg.of_below (O := fun _ => False) k) (fun _ _ x => x.elim)
theorem blk_lt {w : World} {k : Nat} {o : Obj} (h : w.heap[k]? = some o) : k < w.heap.size := (Array.getElem?_eq_some_iff.1 h).1
theorem Chg.blk {O : Nat → Prop} {w w' : World} (h : Chg O w w') {k : Nat} {o : Obj} (hk : w.heap[k]? = some o) (hn : ¬ O k) : w'.heap[k]? = some o := (h.block k (blk_lt hk) hn).trans hk
theorem below_blk {w w' : World} (h : Below w.heap.size w w') {k : Nat} {o : Obj} (hk : w.heap[k]? = some o) : w'.heap[k]? = some o := (h.block k (blk_lt hk)).trans hk
theorem cell_of_blk {w : World} {b : Nat} {cur : Array Value} {t : TypeId} {fr : Nat × Nat} (h : w.heap[b]? = some (.cells cur t fr)) (i : Nat) : w.cell? ⟨b, i, none⟩ = cur[i]? := by simp [World.cell?, h]
theorem frozen_of_blk {w : World} {b : Nat} {cur : Array Value} {t : TypeId} (h : w.heap[b]? = some (.cells cur t (0, 0))) (i : Nat) : w.frozen? ⟨b, i, none⟩ = false := by simp [World.frozen?, h]
theorem blk_setCell {w : World} {b : Nat} {cur : Array Value} {t : TypeId} {fr : Nat × Nat} (h : w.heap[b]? = some (.cells cur t fr)) (i : Nat) (v : Value) :
    (w.setCell ⟨b, i, none⟩ v).heap[b]? = some (.cells (cur.setIfInBounds i v) t fr) := by
  simp [World.setCell, Array.getElem?_modify, h]
theorem blk_setCell_ne {w : World} {b : Nat} {o : Obj} (h : w.heap[b]? = some o) {a : Addr} (hn : b ≠ a.block) (v : Value) : (w.setCell a v).heap[b]? = some o :=
  (Below.heap_setCell w a v b hn).trans h
theorem blk_alloc {w : World} {b : Nat} {o : Obj} (h : w.heap[b]? = some o) (o' : Obj) : (w.alloc o').heap[b]? = some o := below_blk ((Below.refl _ w).alloc (Nat.le_refl _) o') h
theorem blk_drewN {w : World} {b : Nat} {o : Obj} (h : w.heap[b]? = some o) (n : Nat) : (w.drewN n).heap[b]? = some o := h
theorem below_drew' {B : Nat} {w w' : World} (h : Below B w w') : Below B w w'.drew := ⟨h.os, h.tape, h.output, h.size, h.block⟩
theorem below_drewN' {w w' : World} (h : Below w.heap.size w w') (n : Nat) : Below w.heap.size w (w'.drewN n) := ⟨h.os, h.tape, h.output, h.size, h.block⟩
theorem below_then {B : Nat} {w w1 w2 : World} (h : Below B w w1) (hB : B ≤ w1.heap.size) (k : Below w1.heap.size w1 w2) : Below B w w2 :=
  h.trans (k.mono hB)

/-! ### Bytes that are read -/
/-- The value v is a slice that reads as the bytes bs; its array is one of bytes. -/
def HB (w : World) (v : Value) (bs : List Int) : Prop :=
  ∃ A c, v = .slice A bs.length c ∧ bs.length ≤ c ∧ c ≤ 9223372036854775807 ∧ bs.length ≤ 60000 ∧ (∀ x ∈ bs, 0 ≤ x ∧ x ≤ 255) ∧
    (0 < bs.length → ∃ b o cur fr, A = some ⟨b, o, none⟩ ∧ w.heap[b]? = some (.cells cur 5 fr) ∧ ∀ i, i < bs.length → cur[o + i]? = some (.int .u8 (bs[i]?.getD 0)))

theorem HB.nil (w : World) : HB w (.slice none 0 0) [] := ⟨none, 0, rfl, by simp, by decide, by simp, by simp, by simp⟩
theorem HB.shape {w : World} {v : Value} {bs : List Int} (h : HB w v bs) : ∃ A n c, v = .slice A n c := by obtain ⟨A, c, h, _⟩ := h; exact ⟨_, _, _, h⟩
theorem HB.range {w : World} {v : Value} {bs : List Int} (h : HB w v bs) : ∀ x ∈ bs, 0 ≤ x ∧ x ≤ 255 := by obtain ⟨_, _, _, _, _, _, h, _⟩ := h; exact h
theorem HB.len {w : World} {v : Value} {bs : List Int} (h : HB w v bs) : bs.length ≤ 60000 := by obtain ⟨_, _, _, _, _, h, _⟩ := h; exact h
theorem HB.at_ {w : World} {v : Value} {bs : List Int} (h : HB w v bs) (i : Nat) : 0 ≤ bs[i]?.getD 0 ∧ bs[i]?.getD 0 ≤ 255 := by
  by_cases hi : i < bs.length
  · rw [List.getElem?_eq_getElem hi]; exact h.range _ (List.getElem_mem hi)
  · rw [List.getElem?_eq_none (by omega)]; simp
theorem range_at {bs : List Int} (h : ∀ x ∈ bs, 0 ≤ x ∧ x ≤ 255) (i : Nat) : 0 ≤ bs[i]?.getD 0 ∧ bs[i]?.getD 0 ≤ 255 := by
  by_cases hi : i < bs.length
  · rw [List.getElem?_eq_getElem hi]; exact h _ (List.getElem_mem hi)
  · rw [List.getElem?_eq_none (by omega)]; simp
/-- Kept where the blocks of bytes are. -/
theorem HB.keep {w w' : World} {v : Value} {bs : List Int} (h : HB w v bs) (hk : ∀ (b : Nat) (cur : Array Value) (fr : Nat × Nat), w.heap[b]? = some (.cells cur 5 fr) → w'.heap[b]? = some (.cells cur 5 fr)) : HB w' v bs := by
  obtain ⟨A, c, h1, h2, h3, h4, h5, h6⟩ := h
  refine ⟨A, c, h1, h2, h3, h4, h5, fun hp => ?_⟩
  obtain ⟨b, o, cur, fr, e, hb, hc⟩ := h6 hp
  exact ⟨b, o, cur, fr, e, hk _ _ _ hb, hc⟩
theorem HB.below {w w' : World} {v : Value} {bs : List Int} (h : HB w v bs) (hb : Below w.heap.size w w') : HB w' v bs := h.keep fun _ _ _ k => below_blk hb k
theorem HB.drew {w : World} {v : Value} {bs : List Int} (h : HB w v bs) : HB w.drew v bs := h
theorem HB.drewN {w : World} {v : Value} {bs : List Int} (h : HB w v bs) (n : Nat) : HB (w.drewN n) v bs := h
theorem HB.chg {O : Nat → Prop} {w w' : World} {v : Value} {bs : List Int} (h : HB w v bs) (hc : Chg O w w') (ho : ∀ (b : Nat) (cur : Array Value) (fr : Nat × Nat), O b → w.heap[b]? ≠ some (.cells cur 5 fr)) : HB w' v bs :=
  h.keep fun _ _ _ k => hc.blk k fun o => ho _ _ _ o k
theorem HB.cell {w : World} {A : Option Addr} {n c : Nat} {bs : List Int} (h : HB w (.slice A n c) bs) : n = bs.length ∧ n ≤ c ∧ (∀ i, i < n → ∃ b o, A = some ⟨b, o, none⟩ ∧ w.cell? ⟨b, o + i, none⟩ = some (.int .u8 (bs[i]?.getD 0))) := by
  obtain ⟨A', c', h1, h2, h3, h4, h5, h6⟩ := h
  simp only [Value.slice.injEq] at h1
  obtain ⟨rfl, rfl, rfl⟩ := h1
  refine ⟨rfl, h2, fun i hi => ?_⟩
  obtain ⟨b, o, cur, fr, rfl, hb, hc⟩ := h6 (by omega)
  exact ⟨b, o, rfl, by rw [cell_of_blk hb, hc i hi]⟩

/-! ### Rows of the call's own -/
def ints (k : IntKind) (xs : List Int) : List Value := xs.map (.int k)
theorem ints_length (k : IntKind) (xs : List Int) : (ints k xs).length = xs.length := by simp [ints]
theorem ints_append (k : IntKind) (xs ys : List Int) : ints k (xs ++ ys) = ints k xs ++ ints k ys := by simp [ints]
theorem ints_get (k : IntKind) (xs : List Int) (i : Nat) (h : i < xs.length) : (ints k xs)[i]? = some (.int k (xs[i]?.getD 0)) := by
  simp [ints, List.getElem?_eq_getElem h]

/-- v has become v', its row having been written in place or laid anew; no other old block has changed. -/
structure Grow (w w' : World) (v v' : Value) : Prop where
  grown : w.grownBy w' v.ownBlock
  at_ : v'.ownBlock = v.ownBlock ∨ ∀ k, v'.ownBlock = some k → w.heap.size ≤ k
theorem Grow.refl (w : World) (v : Value) : Grow w w v v := ⟨⟨rfl, rfl, rfl, Nat.le_refl _, fun _ _ _ => rfl⟩, .inl rfl⟩
theorem Grow.trans {w w1 w2 : World} {v v1 v2 : Value} (h : Grow w w1 v v1) (k : Grow w1 w2 v1 v2) : Grow w w2 v v2 := by
  refine ⟨⟨k.grown.os.trans h.grown.os, k.grown.tape.trans h.grown.tape, k.grown.output.trans h.grown.output, Nat.le_trans h.grown.size k.grown.size, fun i hi hn => ?_⟩, ?_⟩
  · rw [k.grown.block i (Nat.lt_of_lt_of_le hi h.grown.size) ?_, h.grown.block i hi hn]
    rcases h.at_ with e | e
    · rw [e]; exact hn
    · intro x; have := e i x.symm; omega
  · rcases k.at_ with e | e
    · rcases h.at_ with f | f
      · exact .inl (e.trans f)
      · exact .inr fun k hk => f k (e ▸ hk)
    · exact .inr fun i hi => Nat.le_trans h.grown.size (e i hi)
theorem Grow.of_at {w w' : World} {v v' : Value} (h : w.grownBy w' v.ownBlock) (ha : v'.ownBlock = v.ownBlock ∨ v'.ownBlock = some w.heap.size) : Grow w w' v v' :=
  ⟨h, ha.imp id fun e k hk => by rw [e] at hk; cases hk; exact Nat.le_refl _⟩
theorem Grow.from_alloc {w w' : World} {v v' : Value} {o : Obj} (h : Grow (w.alloc o) w' v v') : Grow w w' v v' := by
  refine ⟨⟨h.grown.os, h.grown.tape, h.grown.output, by have := h.grown.size; simp at this; omega, fun i hi hn => ?_⟩, h.at_.imp id fun e k hk => by have := e k hk; simp at this; omega⟩
  rw [h.grown.block i (by simp; omega) hn]; exact heap_alloc_old w o hi
theorem Grow.nil_below {w w' : World} {v' : Value} (h : Grow w w' (.slice none 0 0) v') : Below w.heap.size w w' :=
  ⟨h.grown.os, h.grown.tape, h.grown.output, h.grown.size, fun k hk => h.grown.block k hk (by simp [Value.ownBlock])⟩
theorem Grow.fresh {w w' : World} {v' : Value} (h : Grow w w' (.slice none 0 0) v') : ∀ k, v'.ownBlock = some k → w.heap.size ≤ k := by
  intro k hk
  rcases h.at_ with e | e
  · rw [e] at hk; simp [Value.ownBlock] at hk
  · exact e k hk
theorem Grow.chg {w w' : World} {v v' : Value} (h : Grow w w' v v') : Chg (fun k => v.ownBlock = some k) w w' := Chg.of_grown h.grown fun _ hk => hk

theorem own_len {w : World} {B e s n : Nat} {v : Value} {xs : List Value} (h : w.ownsRow B e s v n xs) : xs.length = n * s := h.1
theorem own_shape {w : World} {B e s n : Nat} {v : Value} {xs : List Value} (h : w.ownsRow B e s v n xs) : ∃ A c, v = .slice A n c ∧ n ≤ c ∧ c ≤ 9223372036854775807 := by
  rcases h.2 with ⟨rfl, rfl⟩ | ⟨g, cap, cur, rfl, _, _, h1, h2, _⟩
  · exact ⟨none, 0, rfl, Nat.le_refl _, by decide⟩
  · exact ⟨_, cap, rfl, h1, by unfold maxLen at h2; omega⟩
/-- The row where it is not empty. -/
theorem own_pos {w : World} {B e s n : Nat} {A : Option Addr} {c m : Nat} {xs : List Value} (h : w.ownsRow B e s (.slice A m c) n xs) (hn : 0 < n) : ∃ g cur, A = some ⟨g, 0, none⟩ ∧ m = n ∧ B ≤ g ∧ n ≤ c ∧ w.heap[g]? = some (.cells cur e (0, 0)) ∧ cur.size = c * s ∧ cur.toList.take (n * s) = xs ∧ ∀ i, i < n * s → w.cell? ⟨g, i, none⟩ = xs[i]? := by
  rcases h.2 with ⟨hv, rfl⟩ | ⟨g, cap, cur, hv, h1, h2, h3, h4, h5, h6⟩
  · omega
  · simp only [Value.slice.injEq] at hv
    obtain ⟨rfl, rfl, rfl⟩ := hv
    refine ⟨g, cur, rfl, rfl, h1, h3, h2, h5, h6, fun i hi => ?_⟩
    rw [cell_of_blk h2, ← h6, List.getElem?_take, if_pos hi]; simp
theorem own_below {w w' : World} {B e s n : Nat} {v : Value} {xs : List Value} (h : w.ownsRow B e s v n xs) (hb : Below w.heap.size w w') : w'.ownsRow B e s v n xs :=
  h.kept (row := none) ⟨hb.os, hb.tape, hb.output, hb.size, fun k hk _ => hb.block k hk⟩ (by cases v.ownBlock <;> simp)
theorem own_chg {O : Nat → Prop} {w w' : World} {B e s n : Nat} {v : Value} {xs : List Value} (h : w.ownsRow B e s v n xs) (hc : Chg O w w') (ho : ∀ k, v.ownBlock = some k → ¬ O k) : w'.ownsRow B e s v n xs := by
  refine ⟨h.1, ?_⟩
  rcases h.2 with hn | ⟨g, cap, cur, rfl, hb, hg, rest⟩
  · exact .inl hn
  · exact .inr ⟨g, cap, cur, rfl, hb, hc.blk hg (ho g rfl), rest⟩
theorem own_lt {w : World} {B e s n : Nat} {v : Value} {xs : List Value} (h : w.ownsRow B e s v n xs) : ∀ k, v.ownBlock = some k → k < w.heap.size := fun k hk => (h.lt k hk).2
theorem own_base {w : World} {B B' e s n : Nat} {v : Value} {xs : List Value} (h : w.ownsRow B e s v n xs) (hb : ∀ k, v.ownBlock = some k → B' ≤ k) : w.ownsRow B' e s v n xs := by
  refine ⟨h.1, ?_⟩
  rcases h.2 with hn | ⟨g, cap, cur, rfl, _, rest⟩
  · exact .inl hn
  · exact .inr ⟨g, cap, cur, rfl, hb g rfl, rest⟩
theorem own_zero {w : World} {B e s n : Nat} {v : Value} {xs : List Value} (h : w.ownsRow B e s v n xs) : w.ownsRow 0 e s v n xs := own_base h fun _ _ => Nat.zero_le _
theorem own_ty {w : World} {B e s n : Nat} {v : Value} {xs : List Value} (h : w.ownsRow B e s v n xs) : ∀ k, v.ownBlock = some k → ∃ cur, w.heap[k]? = some (.cells cur e (0, 0)) := by
  intro k hk
  rcases h.2 with ⟨rfl, _⟩ | ⟨g, cap, cur, rfl, _, hg, _⟩
  · simp [Value.ownBlock] at hk
  · simp [Value.ownBlock] at hk; subst hk; exact ⟨cur, hg⟩
/-- An owned row of bytes reads as bytes. -/
theorem HB.of_own {w : World} {B : Nat} {v : Value} {n : Nat} {bs : List Int} (h : w.ownsRow B 5 1 v n (ints .u8 bs)) (hr : ∀ x ∈ bs, 0 ≤ x ∧ x ≤ 255) (hl : bs.length ≤ 60000) : HB w v bs := by
  have hn : bs.length = n := by have := h.1; rw [ints_length] at this; omega
  subst hn
  obtain ⟨A, c, rfl, h1, h2⟩ := own_shape h
  refine ⟨A, c, rfl, h1, h2, hl, hr, fun hp => ?_⟩
  obtain ⟨g, cur, rfl, _, _, _, hg, _, hx, _⟩ := own_pos h hp
  refine ⟨g, 0, cur, (0, 0), rfl, hg, fun i hi => ?_⟩
  have : (cur.toList.take (bs.length * 1))[i]? = some (.int .u8 (bs[i]?.getD 0)) := by rw [hx, ints_get _ _ _ hi]
  rw [List.getElem?_take, if_pos (by omega)] at this
  simpa using this
theorem HB.bytesIn {w : World} {A : Option Addr} {n c : Nat} {bs : List Int} (h : HB w (.slice A n c) bs) (hn : 0 < n) : ∃ b o, A = some ⟨b, o, none⟩ ∧ ∀ i, i < n → w.cell? ⟨b, o + i, none⟩ = some (.int .u8 (bs.getD i 0)) := by
  obtain ⟨rfl, _, hc⟩ := h.cell
  obtain ⟨b, o, rfl, _⟩ := hc 0 hn
  refine ⟨b, o, rfl, fun i hi => ?_⟩
  obtain ⟨b', o', e, hc'⟩ := hc i hi
  simp only [Option.some.injEq, Addr.mk.injEq] at e
  obtain ⟨rfl, rfl, _⟩ := e
  simpa using hc'
/-- A slice of the bytes' array. -/
theorem HB.sub {w : World} {A : Option Addr} {n c : Nat} {bs : List Int} (h : HB w (.slice A n c) bs) (i j c' : Nat) (hij : i ≤ j) (hj : j ≤ n) (hc' : j - i ≤ c') (hcm : c' ≤ 9223372036854775807)
    {A' : Option Addr} (hA : i < j → ∀ b o, A = some ⟨b, o, none⟩ → A' = some ⟨b, o + i, none⟩) : HB w (.slice A' (j - i) c') ((bs.drop i).take (j - i)) := by
  obtain ⟨A0, c0, h1, h2, h3, h4, h5, h6⟩ := h
  simp only [Value.slice.injEq] at h1
  obtain ⟨rfl, rfl, rfl⟩ := h1
  have hl : ((bs.drop i).take (j - i)).length = j - i := by simp; omega
  refine ⟨A', c', by rw [hl], by omega, hcm, by omega, fun x hx => h5 x (List.mem_of_mem_drop (List.mem_of_mem_take hx)), fun hp => ?_⟩
  rw [hl] at hp
  obtain ⟨b, o, cur, fr, rfl, hb, hc⟩ := h6 (by omega)
  refine ⟨b, o + i, cur, fr, hA (by omega) b o rfl, hb, fun q hq => ?_⟩
  rw [hl] at hq
  rw [List.getElem?_take, if_pos hq, List.getElem?_drop, ← hc (i + q) (by omega), Nat.add_assoc]

/-! ### Appending -/
/-- What the kit's laws ask of a slice's element type, in one word. -/
structure Elem (P : Program) (t e : TypeId) (size bytes : Nat) : Prop where
  under : P.underlying t = some (.slice e)
  info : ∃ i z, P.info? e = some i ∧ i.zero = some z ∧ i.size = size ∧ i.bytes = bytes ∧ z.cells.size = size
  pos : 0 < size
theorem Elem.of {P : Program} {t e : TypeId} {z : Value} {size bytes : Nat} (hu : P.underlying t = some (.slice e)) (hi : (P.info? e).map (fun i => (i.zero, i.size, i.bytes)) = some (some z, size, bytes)) (hz : z.cells.size = size) (hp : 0 < size) : Elem P t e size bytes := by
  obtain ⟨i, h0, h1, h2, h3⟩ := info_parts hi
  exact ⟨hu, ⟨i, z, h0, h1, h2, h3, hz⟩, hp⟩
/-- The slice at A of m elements holds these cells. -/
def Src (w : World) (size : Nat) (A : Option Addr) (m : Nat) (news : List Value) : Prop :=
  news.length = m * size ∧ (0 < m → ∃ ad, A = some ad ∧ ∀ j u, news[j]? = some u → w.cell? (ad.add j) = some u)
theorem add_lit (b o j : Nat) : (⟨b, o, none⟩ : Addr).add j = ⟨b, o + j, none⟩ := by unfold Addr.add; split <;> simp_all
theorem Src.alloc (w : World) (size : Nat) (cs : List Value) (t : TypeId) (m : Nat) (h : cs.length = m * size) : Src (w.alloc (.cells cs.toArray t)) size (some ⟨w.heap.size, 0, none⟩) m cs := by
  refine ⟨h, fun _ => ⟨_, rfl, fun j u hu => ?_⟩⟩
  rw [add_lit, cell_of_blk (heap_alloc_new w _)]
  simpa using hu
theorem Src.of_HB {w : World} {A : Option Addr} {n c : Nat} {bs : List Int} (h : HB w (.slice A n c) bs) : Src w 1 A n (ints .u8 bs) := by
  obtain ⟨rfl, _, hc⟩ := h.cell
  refine ⟨by simp [ints_length], fun hn => ?_⟩
  obtain ⟨b, o, rfl, _⟩ := hc 0 hn
  refine ⟨_, rfl, fun j u hu => ?_⟩
  have hj : j < bs.length := by rw [← ints_length .u8]; exact (List.getElem?_eq_some_iff.1 hu).1
  obtain ⟨b', o', e, hc'⟩ := hc j hj
  cases e
  rw [add_lit, hc']
  rw [ints_get _ _ _ hj] at hu
  exact hu
theorem ints_one (k : IntKind) (xs : List Int) : ∀ u ∈ ints k xs, u.oneCell' = true := by
  intro u hu; simp only [ints, List.mem_map] at hu; obtain ⟨x, _, rfl⟩ := hu; rfl
section
variable {P : Program} {t e : TypeId} {size bytes : Nat}
theorem run_app (E : Elem P t e size bytes) (w : World) (ty : TypeId) (v : Value) (n : Nat) (xs : List Value) (hown : w.ownsRow 0 e size v n xs) (A : Option Addr) (m c : Nat) (news : List Value) (hs : Src w size A m news)
    (h1 : ∀ u ∈ news, u.oneCell' = true) (hb : (n + m) * bytes ≤ 140737488355328) (hl : n + m ≤ maxLen) :
    ∃ v' w', (Builtin.append_ #[t, t] ty #[v, .slice A m c]).run P w = .ok v' w' ∧ w'.ownsRow 0 e size v' (n + m) (xs ++ news) ∧ Grow w w' v v' ∧ (v' = .slice none 0 0 ↔ v = .slice none 0 0 ∧ m = 0) := by
  obtain ⟨i, z, hi, hz, hsz, hby, hzc⟩ := E.info
  cases A with
  | none =>
    have hm : m = 0 := by
      rcases Nat.eq_zero_or_pos m with h | h
      · exact h
      · obtain ⟨_, e, _⟩ := hs.2 h; cases e
    subst hm
    have hn : news = [] := List.eq_nil_of_length_eq_zero (by simpa using hs.1)
    subst hn
    refine ⟨v, w, ?_, by simpa using hown, Grow.refl _ _, by simp⟩
    rcases hown.2 with ⟨rfl, rfl⟩ | ⟨g, cap, cur, rfl, _, _, hnc, _⟩
    · simp [Builtin.append_, run_underlying E.under, sizeOf, typeInfo, hi, Builtin.lenOf, Builtin.firstCells]
    · simp [Builtin.append_, run_underlying E.under, sizeOf, typeInfo, hi, Builtin.lenOf, Builtin.firstCells, hnc, storeCells]
  | some ad =>
    have hcells : ∀ j u, news[j]? = some u → w.cell? (ad.add j) = some u := by
      intro j u hu
      rcases Nat.eq_zero_or_pos m with h0 | h0
      · subst h0
        have hn : news = [] := List.eq_nil_of_length_eq_zero (by simpa using hs.1)
        subst hn; simp at hu
      · obtain ⟨ad', e, hc⟩ := hs.2 h0
        cases e
        exact hc j u hu
    obtain ⟨v', w', hr, h2, h3, h4, h5⟩ := run_append_own_at (P := P) w 0 t ty e i z size bytes E.under hi hz hsz hby hzc E.pos v n xs hown ad m c news hs.1 hcells h1 hl hb (Nat.zero_le _)
    exact ⟨v', w', hr, h2, Grow.of_at h3 h5, h4⟩
/-- 'append(s, x...)' at its operation, s a row of the call's own. -/
theorem app_arm (E : Elem P t e size bytes) {ops : Array Oper} {rest : List Oper} {o : Oper} {a : Act} {Q : Exit → Act → World → Prop} (w : World) (hgd : o.guard = none) (s x : Operand)
    (ho : o.op = .call { callee := .builtin .append, args := #[s, x], argTypes := #[t, t] })
    {v : Value} {n : Nat} {xs : List Value} (hs : a.eval s = v) (hown : w.ownsRow 0 e size v n xs) {A : Option Addr} {m c : Nat} {news : List Value} (hx : a.eval x = .slice A m c) (hsrc : Src w size A m news)
    (h1 : ∀ u ∈ news, u.oneCell' = true) (hb : (n + m) * bytes ≤ 140737488355328) (hl : n + m ≤ maxLen)
    (h : ∀ v' w', w'.ownsRow 0 e size v' (n + m) (xs ++ news) → Grow w w' v v' → (v' = .slice none 0 0 ↔ v = .slice none 0 0 ∧ m = 0) → wpList P ops Q rest (a.put o.dst v') w') : wpList P ops Q (o :: rest) a w := by
  refine wpList_plain hgd fun K hK => ?_
  obtain ⟨v', w', hr, h2, h3, h4⟩ := run_app E w o.type v n xs hown A m c news hsrc h1 hb hl
  unfold Oper.wp execOp
  simp only [ho, resolve, invoke, builtin, Sem.run_bind, Sem.run_pure, Result.andThen_ok, List.map_toArray, List.map_cons, List.map_nil, hs, hx, hr]
  exact hK _ _ (h v' w' h2 h3 h4)
end
/-- 'append' as one step of a region that draws. -/
theorem step_app {P : Program} {t e : TypeId} {size bytes : Nat} (E : Elem P t e size bytes) {ops : Array Oper} {o : Oper} {a : Act} {K : Act → World → Prop} {Q : Exit → Act → World → Prop} {E' : Prop} (w : World) (hgd : o.guard = none) (s x : Operand)
    (ho : o.op = .call { callee := .builtin .append, args := #[s, x], argTypes := #[t, t] })
    {v : Value} {n : Nat} {xs : List Value} (hs : a.eval s = v) (hown : w.ownsRow 0 e size v n xs) {A : Option Addr} {m c : Nat} {news : List Value} (hx : a.eval x = .slice A m c) (hsrc : Src w size A m news)
    (h1 : ∀ u ∈ news, u.oneCell' = true) (hb : (n + m) * bytes ≤ 140737488355328) (hl : n + m ≤ maxLen)
    (h : ∀ v' w', w'.ownsRow 0 e size v' (n + m) (xs ++ news) → Grow w w' v v' → (v' = .slice none 0 0 ↔ v = .slice none 0 0 ∧ m = 0) → K (a.put o.dst v') w') :
    if Region.wanted o (yielded ops a.tmps) = true then Oper.wp P o a w K Q else E' := by
  have hw : Region.wanted o (yielded ops a.tmps) = true := by simp [Region.wanted, hgd]
  rw [if_pos hw]
  obtain ⟨v', w', hr, h2, h3, h4⟩ := run_app E w o.type v n xs hown A m c news hsrc h1 hb hl
  unfold Oper.wp execOp
  simp only [ho, resolve, invoke, builtin, Sem.run_bind, Sem.run_pure, Result.andThen_ok, List.map_toArray, List.map_cons, List.map_nil, hs, hx, hr]
  exact h v' w' h2 h3 h4
/-- 'make([]T, n)' of elements of one cell. -/
theorem make_arm {P : Program} {t e : TypeId} {bytes : Nat} {z : Value} (hu : P.underlying t = some (.slice e)) (hi : (P.info? e).map (fun i => (i.zero, i.size, i.bytes)) = some (some z, 1, bytes)) (hz1 : z.cells = #[z]) (w : World) {ops : Array Oper} {rest : List Oper} {o : Oper} {a : Act} {Q : Exit → Act → World → Prop}
    (hg : o.guard = none) (l c : Operand) (hop : o.op = Op.makeSlice t l c)
    {kl kc : IntKind} {L C : Int} (n : Nat) (hl : a.eval l = .int kl L) (hc : a.eval c = .int kc C) (hL : L = (n : Int)) (hC : C = (n : Int)) (b2 : bytes * n ≤ 281474976710656) (b3 : n ≤ maxLen)
    (hK : (w.alloc (.cells (madeCells #[z] n) e)).ownsRow w.heap.size e 1 (.slice (some ⟨w.heap.size, 0, none⟩) n n) n (List.replicate n z) → wpList P ops Q rest (a.put o.dst (.slice (some ⟨w.heap.size, 0, none⟩) n n)) (w.alloc (.cells (madeCells #[z] n) e))) :
    wpList P ops Q (o :: rest) a w := by
  obtain ⟨i, h0, h1, h2, h3⟩ := info_parts hi
  refine wpList_plain hg fun K hK' => ?_
  subst hL
  subst hC
  have b3' : n ≤ 9223372036854775807 := by unfold maxLen at b3; omega
  have hr := run_make (P := P) w t e i z hu h0 h1 kl kc n n (by omega) (Int.le_refl _) (by rw [h3, ← Int.natCast_mul]; omega) (by omega)
  simp only [Int.toNat_natCast, h2, hz1, Nat.mul_one] at hr
  unfold Oper.wp
  simp [execOp, hop, hl, hc, hr, Result.andThen]
  refine hK' _ _ (hK ?_)
  have := World.ownsRow_lit (base := w.heap.size) (e := e) (size := 1) w (madeCells #[z] n) n (Nat.le_refl _) b3 (by rw [size_madeCells]; omega)
  rwa [toList_madeCells_one] at this
theorem Tryz.E8 : Elem Tryz.prog 22 5 1 1 := Elem.of Tryz.underlying22 (z := .int .u8 0) (by kernel_rfl) rfl (by omega)

/-! ### Numbers as bytes -/
/-- x in so many bytes, the highest first. -/
def putL (x : Int) (size : Nat) : List Int := (List.range size).map fun k => x / 2 ^ (8 * (size - 1 - k)) % 256
theorem putL_length (x : Int) (size : Nat) : (putL x size).length = size := by simp [putL]
theorem putL_range (x : Int) (size : Nat) : ∀ y ∈ putL x size, 0 ≤ y ∧ y ≤ 255 := by
  intro y hy; simp only [putL, List.mem_map] at hy; obtain ⟨k, _, rfl⟩ := hy; omega
end Go.Proofs.YtblddkjdglliaaaGreatDoor
