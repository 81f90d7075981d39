/- A row of bytes of the call's own grows by handed bytes, or by zeros (append of make). No condition. -/
import Derived.Test.YtblddkjdglliaaaGreatDoorTOthers
import Derived.Lib.AppendZerosOnto
namespace Go.Proofs.YtblddkjdglliaaaGreatDoor
open Go.RowKit

theorem Src.of_handed {w : World} {A : Option Addr} {n : Nat} {xs : List Int} (h : Handed w A n xs) : Src w 1 A n (ints .u8 xs) := by
  obtain ⟨h1, _, h3⟩ := h
  refine ⟨by rw [ints_length, h1, Nat.mul_one], fun hp => ?_⟩
  rcases h3 with ⟨_, rfl⟩ | ⟨a, rfl, hc⟩
  · omega
  · refine ⟨a, rfl, fun j u hu => ?_⟩
    have hj : j < xs.length := by rw [← ints_length .u8]; exact (List.getElem?_eq_some_iff.1 hu).1
    rw [hc j (by omega), ← ints_get _ _ _ hj, hu]
theorem zeros_run (w : World) (g n cap k : Nat) (xs : List Int) (ty : TypeId) (h0 : 0 < k) (hown : w.ownsRow 0 5 1 (.slice (some ⟨g, 0, none⟩) n cap) n (ints .u8 xs)) (hbig : n + k ≤ 100000) :
    ∃ v' w', (Builtin.append_ #[22, 3] ty #[.slice (some ⟨g, 0, none⟩) n cap, .int .i64 k]).run Tryz.prog w = .ok v' w' ∧ w'.ownsRow 0 5 1 v' (n + k) (ints .u8 (xs ++ List.replicate k 0)) ∧ Grow w w' (.slice (some ⟨g, 0, none⟩) n cap) v' := by
  obtain ⟨i, hi, hz0, hz1, hz2⟩ := info_parts Tryz.info5
  have hxl : xs.length = n := by have := hown.1; rw [ints_length] at this; omega
  have hnl : (ints .u8 (xs ++ List.replicate k 0)).length = (n + k) * 1 := by simp [ints_length, hxl]
  have hni : ints .u8 (xs ++ List.replicate k 0) = ints .u8 xs ++ List.replicate k (.int .u8 0) := by rw [ints_append]; simp [ints]
  have hzc : (Builtin.zeroCells (Value.int .u8 0).cells k).toList = List.replicate k (.int .u8 0) := by
    have h1 : ∀ i : Nat, [Value.int .u8 0][i % 1]?.getD default = Value.int .u8 0 := fun i => by rw [Nat.mod_one]; rfl
    simp [Builtin.zeroCells, Value.cells, h1]
    rw [List.map_const', List.length_range]
  rcases hown.2 with ⟨hv, _⟩ | ⟨g', cap', cur, hv, hb, hg, hnc, hcm, hcs, htake⟩
  · cases hv
  · simp only [Value.slice.injEq, Option.some.injEq, Addr.mk.injEq] at hv
    obtain ⟨⟨rfl, _⟩, _, rfl⟩ := hv
    by_cases hroom : n + k ≤ cap
    · have hst := run_storeCells_at Tryz.prog g n 5 (List.replicate k (Value.int .u8 0)) 0 cur w hg (by simp; omega) (by intro v hv; rw [List.eq_of_mem_replicate hv]; rfl)
      simp only [Nat.add_zero] at hst
      have hw : IntKind.i64.wrap (k : Int) = k := IntWalk.i64_in _ (by omega)
      have hneg : ¬ ((k : Int) < 0) := by omega
      have h48i : ¬ (281474976710656 < (k : Int)) := by omega
      have hk0 : k ≠ 0 := by omega
      refine ⟨.slice (some ⟨g, 0, none⟩) (n + k) cap, w.setRow g (cur.toList.take n ++ List.replicate k (Value.int .u8 0) ++ cur.toList.drop (n + (List.replicate k (Value.int .u8 0)).length)).toArray, ?_, ?_, ?_⟩
      · simp [Builtin.append_, run_underlying Tryz.underlying22, run_underlying Tryz.underlying3, sizeOf, typeInfo, zeroValue, hi, hz0, hz1, hz2, asInt, asIntOf, hw, hneg, h48i, hroom, hk0, Addr.add_lit, hzc, hst]
      · refine ⟨hnl, .inr ⟨g, cap, _, rfl, hb, setRow_heap w g cur _ _ _ hg, hroom, hcm, ?_, ?_⟩⟩
        · simp only [List.size_toArray, List.length_append, List.length_take, List.length_drop, Array.length_toList, List.length_replicate]
          omega
        · rw [hni, ← htake, Nat.mul_one, Nat.mul_one]
          have hl : (cur.toList.take n ++ List.replicate k (Value.int .u8 0)).length = n + k := by simp; omega
          rw [← hl]
          exact List.take_left
      · exact ⟨⟨rfl, rfl, rfl, by simp [World.setRow], fun j _ hj => setRow_other w g j _ (fun e => hj (by simp [Value.ownBlock, e]))⟩, .inl rfl⟩
    · have holds : ∀ j u, (ints .u8 xs)[j]? = some u → w.drew.cell? ((⟨g, 0, none⟩ : Addr).add j) = some u := hown.cells (g := g) rfl
      have hold := run_firstCells_some (P := Tryz.prog) w.drew i.size n ⟨g, 0, none⟩ n cap (ints .u8 xs) (by rw [hz1]; exact hown.1) holds
      have hr := Lib.run_append_grow_zeros (P := Tryz.prog) w 22 3 ty 5 i (.int .u8 0) .i64 .i64 Tryz.underlying22 Tryz.underlying3 hi hz0 (some ⟨g, 0, none⟩) n cap (ints .u8 xs) hold k h0 (by omega) (by omega) (by omega) (by rw [hz2]; omega) (growslice_fits (by omega) (by rw [hz2]; omega))
      have hge := grownCap_ge w (n + k) cap 5
      have hcm' : grownCap w (n + k) cap 5 ≤ maxLen := grownCap_le_maxLen w (n + k) cap 5 (by unfold maxLen; omega)
      refine ⟨_, _, hr, ⟨hnl, .inr ⟨w.heap.size, _, _, rfl, Nat.zero_le _, heap_alloc_new w.drew _, hge, hcm', ?_, ?_⟩⟩, ⟨⟨rfl, rfl, rfl, by simp, fun j hj _ => heap_alloc_old w.drew _ hj⟩, .inr fun j e => by simp [Value.ownBlock] at e; omega⟩⟩
      · simp only [Array.size_append, List.size_toArray, size_zeroCells, ints_length, Value.cells]
        simp
        omega
      · simp only [Array.toList_append, hzc, List.append_assoc]
        rw [hni, ← List.append_assoc]
        have hl : (ints .u8 xs ++ List.replicate k (Value.int .u8 0)).length = (n + k) * 1 := by simp [ints_length, hxl]
        rw [← hl]
        exact List.take_left
end Go.Proofs.YtblddkjdglliaaaGreatDoor
