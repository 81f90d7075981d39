/- Contract: Task.store. Conditions: a planned task, a pool, each as its word says. -/
import Derived.Test.YtblddkjdglliaaaGreatDoorTaskN
import Derived.Test.YtblddkjdglliaaaGreatDoorEnc
import Derived.Test.YtblddkjdglliaaaGreatDoorPoolH
import Derived.Test.YtblddkjdglliaaaGreatDoorQTail
namespace Go.Proofs.YtblddkjdglliaaaGreatDoor
open Go.RowKit

theorem IsTask.pstep {w w' : World} {b p : Nat} {t : TaskM} {L L' : Lay} {m : PoolM} (h : IsTask w b t) (hp : IsPool w p L m) (hs : PStep p w w' L L') : IsTask w' b t := by
  refine h.keep fun b cur ty fr ht hb => hs.chg.blk hb fun hk => ?_
  obtain ⟨cur', e', h1, h2⟩ := PFp_ty hp hk
  rw [hb] at h1; cases h1
  rcases ht with rfl | rfl | rfl | rfl <;> rcases h2 with h2 | h2 | h2 | h2 | h2 <;> cases h2
theorem IsPool.task {w w' : World} {b p : Nat} {t : TaskM} {L : Lay} {m : PoolM} (hp : IsPool w p L m) (h : IsTask w b t) (hc : Chg (fun j => j = b) w w') : IsPool w' p L m := by
  obtain ⟨dv, sv, h1, _⟩ := h
  refine hp.keep hc ?_ ?_
  · rintro k hk rfl
    obtain ⟨cur', e', g1, h2⟩ := PFp_ty hp hk
    rw [h1] at g1; cases g1
    rcases h2 with h2 | h2 | h2 | h2 | h2 <;> cases h2
  · rintro k cur fr rfl e
    rw [h1] at e; cases e
/-- The shard at a place of a task's stripe. -/
def shardL (k m : Nat) (data : List Int) (n i : Nat) : List Int := (encL k m ((splitL k data)[n]?.getD []))[i]?.getD []
theorem splitL_len (k : Nat) (data : List Int) (hk : 1 ≤ k) (n : Nat) (hn : n < countN k data.length) : ((splitL k data)[n]?.getD []).length = k * 8 :=
  chop_at (k * 8) _ _ (padL_length k data hk) n hn
theorem splitL_length (k : Nat) (data : List Int) : (splitL k data).length = countN k data.length := chop_length _ _ _
theorem encL_length (k m : Nat) (bs : List Int) : (encL k m bs).length = k + m := by simp [encL, timesL, codeL]
theorem encL_at (k m : Nat) (bs : List Int) (i : Nat) (hi : i < k + m) : ((encL k m bs)[i]?.getD []).length = 8 := by
  have h : i < (timesL (codeL k m) (chop 8 k bs) 8).length := by simpa [timesL, codeL] using hi
  unfold encL
  rw [List.getElem?_eq_getElem h]
  simp only [timesL, List.getElem_map, Option.getD_some]
  exact (timesK_ok _ _ _ _).1
theorem shardL_len (k m : Nat) (data : List Int) (n i : Nat) (hi : i < k + m) : (shardL k m data n i).length = 8 := encL_at k m _ i hi

set_option maxRecDepth 100000 in
set_option maxHeartbeats 2000000 in
theorem tstore_any (b p : Nat) (t : TaskM) (L : Lay) (mp : PoolM) (k m n i : Nat) (w : World) (h : IsTask w b t) (hp : IsPool w p L mp) (hr : mp.room) (hk1 : 1 ≤ k) (hk4 : k ≤ 4) (hm3 : m ≤ 3)
    (hd : t.data.length ≤ 96) (hn : n < countN k t.data.length) (hns : n < t.strs.length) (hi : i < k + m) (hil : i < (t.strs[n]?.getD .zero).locs.length)
    (hid : 0 ≤ (t.strs[n]?.getD .zero).id ∧ (t.strs[n]?.getD .zero).id ≤ 1073741824) :
    Calls Tryz.prog 53 #[tptr b, pptr p, .int .i64 k, .int .i64 m, .int .i64 n, .int .i64 i] w fun e w' => ∃ L',
      e = .returned (.int .i64 (mp.store ((t.strs[n]?.getD .zero).locs[i]?.getD 0) (t.strs[n]?.getD .zero).id i (shardL k m t.data n i)).1) ∧
      IsPool w' p L' (mp.store ((t.strs[n]?.getD .zero).locs[i]?.getD 0) (t.strs[n]?.getD .zero).id i (shardL k m t.data n i)).2 ∧ PStep p w w' L L' := by
  obtain ⟨dv, sv, h1, h2, h3⟩ := h
  have SP := split_any k dv t.data w hk1 hk4 h2 (by omega)
  have hslen := splitL_len k t.data hk1 n hn
  have hsl := splitL_length k t.data
  have EN := fun v W hv => encode_any k m v ((splitL k t.data)[n]?.getD []) W hk1 hk4 hm3 hv hslen
  have hel := encL_length k m ((splitL k t.data)[n]?.getD [])
  have hsh := shardL_len k m t.data n i hi
  unfold shardL at hsh ⊢
  obtain ⟨D, d, e, rfl⟩ := h2.shape
  unfold TaskM.cells taskCells at h1
  have c3 : w.cell? ⟨b, 3, none⟩ = some (.slice D d e) := by rw [cell_of_blk h1]; rfl
  obtain ⟨Q, hQ⟩ : ∃ Q : Ending → World → Prop, Q = fun e w' => ∃ L',
      e = .returned (.int .i64 (mp.store ((t.strs[n]?.getD .zero).locs[i]?.getD 0) (t.strs[n]?.getD .zero).id i ((encL k m ((splitL k t.data)[n]?.getD []))[i]?.getD [])).1) ∧
      IsPool w' p L' (mp.store ((t.strs[n]?.getD .zero).locs[i]?.getD 0) (t.strs[n]?.getD .zero).id i ((encL k m ((splitL k t.data)[n]?.getD []))[i]?.getD [])).2 ∧ PStep p w w' L L' := ⟨_, rfl⟩
  rw [← hQ]
  replace hQ := Lib.hid hQ
  replace SP := Lib.hid SP
  replace EN := Lib.hid EN
  have H1 := Lib.hid h1
  have H3 := Lib.hid h3
  have HP := Lib.hid hp
  have HSL := Lib.hid hsl
  have HEL := Lib.hid hel
  have HSH := Lib.hid hsh
  have HIL := Lib.hid hil
  have HID := Lib.hid hid
  have HNS := Lib.hid hns
  have HN := Lib.hid hn
  clear h1 h2 h3 hp hslen hsl hel hsh hil hid hns hn hd
  unfold tptr pptr at *
  go_enter Tryz.func53, Tryz.ntmps53
  go_wp2_with fail
  refine SP.out.mono ?_
  rintro e1 w1 ⟨v1, rfl, hR1, _, hB1⟩
  obtain ⟨A1, n1, c1', rfl⟩ := hR1.table.shape
  obtain ⟨hn1, hnc1, _, _, hc1⟩ := hR1.table.cell
  obtain ⟨g1, o1, u1, rfl, hu1, hbu1⟩ := hc1 n (by rw [hn1, HSL.out]; exact HN.out)
  obtain ⟨U, un, uc, rfl⟩ := hbu1.shape
  have hnn : n < n1 := by rw [hn1, HSL.out]; exact HN.out
  have EN1 := Lib.hid (EN.out _ w1 hbu1)
  clear hR1 hn1 hc1 hbu1
  go_wp2_with fail
  refine EN1.out.mono ?_
  rintro e2 w2 ⟨v2, rfl, hR2, _, hB2⟩
  obtain ⟨A2, n2, c2, rfl⟩ := hR2.table.shape
  obtain ⟨hn2, hnc2, _, _, hc2⟩ := hR2.table.cell
  obtain ⟨g2, o2, u2, rfl, hu2, hbu2⟩ := hc2 i (by rw [hn2, HEL.out]; exact hi)
  obtain ⟨V, vn, vc, rfl⟩ := hbu2.shape
  have hin : i < n2 := by rw [hn2, HEL.out]; exact hi
  have hB12 := hB1.trans (hB2.mono hB1.size)
  have h1' := below_blk hB12 H1.out
  have h3' := H3.out.below hB12
  obtain ⟨S, sn, sc, rfl⟩ := h3'.shape
  obtain ⟨hsn, hsnc, _, hsc⟩ := h3'.cell
  obtain ⟨g3, u3, rfl, s0, s1, s2, hu3⟩ := hsc n (by rw [hsn]; exact HNS.out)
  obtain ⟨X, xn, xc, rfl⟩ := hu3.shape
  have hnsn : n < sn := by rw [hsn]; exact HNS.out
  have m7 : w2.cell? ⟨b, 7, none⟩ = some (.slice (some ⟨g3, 0, none⟩) sn sc) := by rw [cell_of_blk h1']; rfl
  replace hu3 := Lib.hid hu3
  replace hbu2 := Lib.hid hbu2
  have HU2 := Lib.hid hu2
  clear hR2 hn2 hc2 h1' h3' hsn hsc c3 hu1 hu2
  go_wp2_with fail
  obtain ⟨st, hst⟩ : ∃ st, t.strs[n]?.getD .zero = st := ⟨_, rfl⟩
  rw [hst] at HIL HID hu3 hQ s0 s1 ⊢
  obtain ⟨sid, sep, sl⟩ := st
  clear hst
  simp only at HIL HID hu3 hQ s0 s1 ⊢
  obtain ⟨W3, hW3⟩ : ∃ W, w2.alloc (.cells #[.int .i64 sid, .int .i64 sep, .slice X xn xc] 36) = W := ⟨_, rfl⟩
  have hb3 : W3.heap[w2.heap.size]? = some (.cells #[.int .i64 sid, .int .i64 sep, .slice X xn xc] 36 (0, 0)) := by rw [← hW3]; exact heap_alloc_new w2 _
  have hB3 : Below w2.heap.size w2 W3 := by rw [← hW3]; exact (Below.refl _ _).alloc (Nat.le_refl _) _
  rw [hW3]
  clear hW3 s0 s1 s2 m7
  have hBw3 := hB12.trans (hB3.mono hB12.size)
  obtain ⟨hxn, _, hxc⟩ := (hu3.out.below hB3).toC.cell
  obtain ⟨xb, xo, rfl, hx⟩ := hxc i (by rw [hxn]; exact HIL.out)
  have hixn : i < xn := by rw [hxn]; exact HIL.out
  have hu2' : W3.cell? ⟨g2, o2 + i, none⟩ = some (.slice V vn vc) := by rw [hB3.cell (cell_lt HU2.out)]; exact HU2.out
  have m0 : W3.cell? ⟨w2.heap.size, 0, none⟩ = some (.int .i64 sid) := by rw [cell_of_blk hb3]; rfl
  have m2 : W3.cell? ⟨w2.heap.size, 2, none⟩ = some (.slice (some ⟨xb, xo, none⟩) xn xc) := by rw [cell_of_blk hb3]; rfl
  have ST := fun nq => pstore_any p L mp (sl[i]?.getD 0) sid i _ _ (W3.drewN nq) ((HP.out.below hBw3).below (below_drewN' (Below.refl _ W3) nq)) hr HID.out.1 HID.out.2 (by omega) (by omega) ((hbu2.out.below hB3).drewN nq) (by rw [show (encL k m ((splitL k t.data)[n]?.getD []))[i]?.getD [] = (encL k m ((splitL k t.data)[n]?.getD []))[i]?.getD [] from rfl, HSH.out]; omega)
  replace ST := Lib.hid ST
  have hinI : (i : Int) < n2 := by omega
  have hixI : (i : Int) < xn := by omega
  generalize w2.heap.size = q at *
  clear hb3 hxn hxc hu3
  unfold pptr at ST
  generalize sl[i]?.getD 0 = z at *
  refine region_quiet_tail 13 (by kernel_rfl) (by kernel_rfl) ?_
  simp only [List.take_succ_cons, List.take_zero, List.drop_succ_cons, List.drop_zero]
  repeat (quiet_step (fail))
  refine wpQuiet_nil ?_
  intro _ hw'
  obtain ⟨nq, hw''⟩ := hw'
  subst hw''
  go_wp2_with fail
  refine (ST.out nq).mono ?_
  rintro e4 w4 ⟨L', rfl, hP4, hs4⟩
  go_wp2_with fail
  rw [hQ.out]
  exact ⟨L', rfl, hP4, (PStep.of_below (below_drewN' hBw3 nq)).trans hs4⟩
end Go.Proofs.YtblddkjdglliaaaGreatDoor
