/- Contracts of package drive. Conditions: a drive that lies as IsDrive says; loose writes are fewer than a bound. -/
import Derived.Test.YtblddkjdglliaaaGreatDoorSlot
import Derived.Deep.RegionLaw
import Derived.RegionTactic
import Derived.BigRegion
namespace Go.Proofs.YtblddkjdglliaaaGreatDoor
open Go.RowKit

theorem Tryz.EB : Elem Tryz.prog 63 22 1 24 := Elem.of Tryz.underlying63 (z := .slice none 0 0) (by kernel_rfl) rfl (by omega)
theorem Tryz.EW : Elem Tryz.prog 122 149 2 32 := Elem.of Tryz.underlying122 (z := .agg #[.int .i64 0, .slice none 0 0]) (by kernel_rfl) rfl (by omega)

/-- A drive: what lasts of each slot, what is loose, whether it is lost. -/
structure DriveM where
  lasts : List (List Int)
  loose : List (Int × List Int)
  lost : Bool

def AllHB (w : World) (ls : List Value) (xs : List (List Int)) : Prop := ls.length = xs.length ∧ ∀ (i : Nat) v bs, ls[i]? = some v → xs[i]? = some bs → HB w v bs
def AllW (w : World) (us : List Value) (l : List (Int × List Int)) : Prop := us.length = l.length * 2 ∧ ∀ (i : Nat) p, l[i]? = some p → us[2 * i]? = some (.int .i64 p.1) ∧ ∃ v, us[2 * i + 1]? = some v ∧ HB w v p.2

structure IsDrive (w : World) (b : Nat) (lv wv : Value) (d : DriveM) : Prop where
  blk : w.heap[b]? = some (.cells #[lv, wv, .bool d.lost] 124 (0, 0))
  lasts : ∃ ls, w.ownsRow 0 22 1 lv d.lasts.length ls ∧ AllHB w ls d.lasts
  loose : ∃ us, w.ownsRow 0 149 2 wv d.loose.length us ∧ AllW w us d.loose
  inr : ∀ p ∈ d.loose, 0 ≤ p.1 ∧ p.1 < d.lasts.length
  cap : d.lasts.length ≤ 128
  few : d.loose.length ≤ 1000000

theorem IsDrive.keep {w w' : World} {b : Nat} {lv wv : Value} {d : DriveM} (h : IsDrive w b lv wv d) {O : Nat → Prop} (hc : Chg O w w') (h1 : ¬ O b) (h2 : ∀ k, lv.ownBlock = some k → ¬ O k) (h3 : ∀ k, wv.ownBlock = some k → ¬ O k)
    (h4 : ∀ (k : Nat) (cur : Array Value) (fr : Nat × Nat), O k → w.heap[k]? ≠ some (.cells cur 5 fr)) : IsDrive w' b lv wv d := by
  obtain ⟨ls, l1, l2⟩ := h.lasts
  obtain ⟨us, u1, u2⟩ := h.loose
  refine ⟨hc.blk h.blk h1, ⟨ls, own_chg l1 hc h2, l2.1, fun i v bs a c => (l2.2 i v bs a c).chg hc h4⟩, ⟨us, own_chg u1 hc h3, u2.1, fun i p a => ?_⟩, h.inr, h.cap, h.few⟩
  obtain ⟨e1, v, e2, e3⟩ := u2.2 i p a
  exact ⟨e1, v, e2, e3.chg hc h4⟩
theorem IsDrive.below {w w' : World} {b : Nat} {lv wv : Value} {d : DriveM} (h : IsDrive w b lv wv d) (hb : Below w.heap.size w w') : IsDrive w' b lv wv d :=
  h.keep (O := fun _ => False) (Chg.of_below hb) id (fun _ _ => id) (fun _ _ => id) (fun _ _ _ x => x.elim)

def dptr (b : Nat) : Value := .pointer (some ⟨b, 0, none⟩)

set_option maxHeartbeats 400000 in
theorem lost_nil (w : World) : Calls Tryz.prog 98 #[.pointer none] w fun e w' => e = .returned (.bool false) ∧ w = w' := by
  go_enter Tryz.func98, Tryz.ntmps98
  go_wp2
  go_ret
  exact ⟨rfl, rfl⟩
set_option maxHeartbeats 400000 in
theorem lost_any (b : Nat) (lv wv : Value) (d : DriveM) (w : World) (h : IsDrive w b lv wv d) : Calls Tryz.prog 98 #[dptr b] w fun e w' => e = .returned (.bool d.lost) ∧ w = w' := by
  have c2 : w.cell? ⟨b, 2, none⟩ = some (.bool d.lost) := by rw [cell_of_blk h.blk]; rfl
  unfold dptr
  generalize d.lost = x at *
  go_enter Tryz.func98, Tryz.ntmps98
  go_wp2
  go_ret
  exact ⟨rfl, rfl⟩
def DriveM.capI (d : DriveM) : Int := if d.lost then 0 else d.lasts.length
set_option maxHeartbeats 400000 in
theorem cap_nil (w : World) : Calls Tryz.prog 55 #[.pointer none] w fun e w' => e = .returned (.int .i64 0) ∧ w = w' := by
  go_enter Tryz.func55, Tryz.ntmps55
  go_wp2_with (go_at_call 98; refine (lost_nil _).mono ?_; rintro e w' ⟨rfl, rfl⟩)
  go_ret
  exact ⟨rfl, rfl⟩
set_option maxHeartbeats 400000 in
theorem cap_any (b : Nat) (lv wv : Value) (d : DriveM) (w : World) (h : IsDrive w b lv wv d) : Calls Tryz.prog 55 #[dptr b] w fun e w' => e = .returned (.int .i64 d.capI) ∧ w = w' := by
  obtain ⟨ls, l1, _⟩ := h.lasts
  obtain ⟨A, c, hlv, hlc⟩ := own_shape l1
  have c0 : w.cell? ⟨b, 0, none⟩ = some (.slice A d.lasts.length c) := by rw [cell_of_blk h.blk, hlv]; rfl
  have L := lost_any b lv wv d w h
  unfold dptr at *
  unfold DriveM.capI
  clear h hlv l1
  generalize d.lost = x at *
  cases x
  all_goals
    go_enter Tryz.func55, Tryz.ntmps55
    go_wp2_with (go_at_call 98; refine L.mono ?_; rintro e w' ⟨rfl, rfl⟩)
    go_ret
    exact ⟨rfl, rfl⟩

def DriveM.check (d : DriveM) (s : Int) : Int := if d.lost then 8 else if s < 0 then 1 else if (d.lasts.length : Int) ≤ s then 1 else 0
set_option maxHeartbeats 400000 in
theorem check_any (b : Nat) (lv wv : Value) (d : DriveM) (s : Int) (w : World) (h : IsDrive w b lv wv d) : Calls Tryz.prog 108 #[dptr b, .int .i64 s] w fun e w' => e = .returned (.int .i64 (d.check s)) ∧ w = w' := by
  obtain ⟨ls, l1, _⟩ := h.lasts
  obtain ⟨A, c, hlv, hlc⟩ := own_shape l1
  have c0 : w.cell? ⟨b, 0, none⟩ = some (.slice A d.lasts.length c) := by rw [cell_of_blk h.blk, hlv]; rfl
  have c2 : w.cell? ⟨b, 2, none⟩ = some (.bool d.lost) := by rw [cell_of_blk h.blk]; rfl
  unfold dptr DriveM.check
  clear h hlv l1
  generalize d.lasts.length = n at *
  generalize d.lost = x at *
  cases x
  · by_cases h0 : s < 0
    · go_enter Tryz.func108, Tryz.ntmps108
      go_wp2
      go_ret
      exact ⟨by simp [*], rfl⟩
    · by_cases h1 : (n : Int) ≤ s
      · go_enter Tryz.func108, Tryz.ntmps108
        go_wp2
        go_ret
        exact ⟨by simp [*], rfl⟩
      · go_enter Tryz.func108, Tryz.ntmps108
        go_wp2
        go_ret
        exact ⟨by simp [*], rfl⟩
  · go_enter Tryz.func108, Tryz.ntmps108
    go_wp2
    go_ret
    exact ⟨rfl, rfl⟩

theorem AllHB.at_ {w : World} {ls : List Value} {xs : List (List Int)} (h : AllHB w ls xs) (i : Nat) (hi : i < xs.length) : ∃ v, ls[i]? = some v ∧ HB w v (xs[i]?.getD []) := by
  have hl : i < ls.length := by rw [h.1]; exact hi
  exact ⟨ls[i], List.getElem?_eq_getElem hl, by rw [List.getElem?_eq_getElem hi]; exact h.2 i _ _ (List.getElem?_eq_getElem hl) (List.getElem?_eq_getElem hi)⟩
theorem AllW.at_ {w : World} {us : List Value} {l : List (Int × List Int)} (h : AllW w us l) (i : Nat) (hi : i < l.length) : ∃ v, us[2 * i]? = some (.int .i64 (l[i]?.getD (0, [])).1) ∧ us[2 * i + 1]? = some v ∧ HB w v (l[i]?.getD (0, [])).2 := by
  obtain ⟨e1, v, e2, e3⟩ := h.2 i _ (List.getElem?_eq_getElem hi)
  rw [List.getElem?_eq_getElem hi]
  exact ⟨v, e1, e2, e3⟩
/-- What lasts of a slot that there is. -/
def DriveM.lastAt (d : DriveM) (s : Int) : List Int := if d.check s = 0 then d.lasts[s.toNat]?.getD [] else []
theorem check_zero {d : DriveM} {s : Int} (h : d.check s = 0) : d.lost = false ∧ 0 ≤ s ∧ s < d.lasts.length := by
  unfold DriveM.check at h
  cases hl : d.lost <;> simp [hl] at h
  split at h
  · cases h
  · split at h
    · cases h
    · exact ⟨rfl, by omega, by omega⟩
set_option maxHeartbeats 400000 in
theorem lasts_any (b : Nat) (lv wv : Value) (d : DriveM) (s : Int) (w : World) (h : IsDrive w b lv wv d) :
    Calls Tryz.prog 67 #[dptr b, .int .i64 s] w fun e w' => ∃ v', e = .returned (.tuple #[v', .int .i64 (d.check s)]) ∧ HB w' v' (d.lastAt s) ∧ Below w.heap.size w w' := by
  have CK := check_any b lv wv d s w h
  by_cases hc : d.check s = 0
  · obtain ⟨_, h0, h1⟩ := check_zero hc
    obtain ⟨k, rfl⟩ := Int.eq_ofNat_of_zero_le h0
    have hk : k < d.lasts.length := by omega
    obtain ⟨ls, l1, l2⟩ := h.lasts
    obtain ⟨A, c, hlv, hlc⟩ := own_shape l1
    have c0 : w.cell? ⟨b, 0, none⟩ = some (.slice A d.lasts.length c) := by rw [cell_of_blk h.blk, hlv]; rfl
    subst hlv
    obtain ⟨g, cur, rfl, _, _, _, _, _, _, hcell⟩ := own_pos l1 (by omega)
    obtain ⟨v, hv, hb⟩ := l2.at_ k hk
    obtain ⟨A', n', c', rfl⟩ := hb.shape
    have c1 : w.cell? ⟨g, k, none⟩ = some (.slice A' n' c') := by rw [hcell k (by omega), hv]
    have hla : d.lastAt k = d.lasts[k]?.getD [] := by simp [DriveM.lastAt, hc]
    have CL := clone_any _ _ w hb
    rw [← hla] at CL
    generalize d.lastAt k = x at *
    rw [hc] at CK ⊢
    have hcap := h.cap
    generalize d.lasts.length = n at *
    clear hla hb l1 l2 h hcell hv hc
    unfold dptr at *
    go_enter Tryz.func67, Tryz.ntmps67
    go_wp2_with (first
      | (go_at_call 108; refine CK.mono ?_; rintro e w' ⟨rfl, rfl⟩)
      | (go_at_call 46; refine CL.mono ?_; rintro e w1 ⟨v1, rfl, _, hb1, hB1⟩))
    go_ret2
    exact ⟨_, rfl, hb1, hB1⟩
  · have hla : d.lastAt s = [] := by simp [DriveM.lastAt, hc]
    rw [hla]
    have hb : (d.check s != 0) = true := by rw [bne_iff_ne]; exact hc
    generalize d.check s = x at *
    clear h hla hc
    unfold dptr at *
    go_enter Tryz.func67, Tryz.ntmps67
    go_wp2_with (go_at_call 108; refine CK.mono ?_; rintro e w' ⟨rfl, rfl⟩)
    go_ret2
    exact ⟨_, rfl, HB.nil _, Below.refl _ _⟩

/-- The blocks that a drive may write. -/
def DFp (b : Nat) (lv wv : Value) (k : Nat) : Prop := k = b ∨ lv.ownBlock = some k ∨ wv.ownBlock = some k
def DriveM.gone : DriveM := ⟨[], [], true⟩
set_option maxHeartbeats 400000 in
theorem lose_nil (w : World) : Calls Tryz.prog 40 #[.pointer none] w fun e w' => e = .returned (.tuple #[]) ∧ w = w' := by
  go_enter Tryz.func40, Tryz.ntmps40
  go_wp2
  go_end0
  exact ⟨rfl, rfl⟩
set_option maxHeartbeats 400000 in
theorem lose_any (b : Nat) (lv wv : Value) (d : DriveM) (w : World) (h : IsDrive w b lv wv d) :
    Calls Tryz.prog 40 #[dptr b] w fun e w' => e = .returned (.tuple #[]) ∧ IsDrive w' b (.slice none 0 0) (.slice none 0 0) .gone ∧ Chg (fun k => k = b) w w' := by
  have hblk := h.blk
  have c0 : w.cell? ⟨b, 0, none⟩ = some lv := by rw [cell_of_blk h.blk]; rfl
  have c1 : w.cell? ⟨b, 1, none⟩ = some wv := by rw [cell_of_blk h.blk]; rfl
  have c2 : w.cell? ⟨b, 2, none⟩ = some (.bool d.lost) := by rw [cell_of_blk h.blk]; rfl
  have f0 := frozen_of_blk h.blk 0
  have f1 := frozen_of_blk h.blk 1
  have f2 := frozen_of_blk h.blk 2
  have HB0 := Lib.hid hblk
  unfold dptr
  clear h hblk
  go_enter Tryz.func40, Tryz.ntmps40
  go_wp2
  go_end0
  refine ⟨rfl, ⟨?_, ⟨[], World.ownsRow_nil _ _ _ _, rfl, by simp⟩, ⟨[], World.ownsRow_nil _ _ _ _, rfl, by simp [DriveM.gone]⟩, by simp [DriveM.gone], by simp [DriveM.gone], by simp [DriveM.gone]⟩, ?_⟩
  · exact blk_setCell (blk_setCell (blk_setCell HB0.out 0 _) 1 _) 2 _
  · exact (((Chg.refl (fun k => k = b) w).then_setCell (a := ⟨b, 0, none⟩) (.inl rfl) _).then_setCell (a := ⟨b, 1, none⟩) (.inl rfl) _).then_setCell (a := ⟨b, 2, none⟩) (.inl rfl) _

set_option maxRecDepth 100000 in
set_option maxHeartbeats 400000 in
theorem newDrive_any (s : Int) (w : World) :
    Calls Tryz.prog 52 #[.int .i64 s] w fun e w' => ∃ b lv, e = .returned (dptr b) ∧ IsDrive w' b lv (.slice none 0 0) ⟨List.replicate (min (max s 0) 128).toNat [], [], false⟩ ∧ w.heap.size ≤ b ∧ (∀ k, lv.ownBlock = some k → w.heap.size ≤ k ∧ k ≠ b) ∧ Below w.heap.size w w' := by
  obtain ⟨n, hn⟩ : ∃ n : Nat, min (max s 0) 128 = (n : Int) := ⟨_, (Int.toNat_of_nonneg (by omega)).symm⟩
  have hn8 : n ≤ 128 := by omega
  rw [hn, Int.toNat_natCast]
  go_enter Tryz.func52, Tryz.ntmps52
  go_wp2_with (at_make; refine make_arm (z := .slice none 0 0) (bytes := 24) Tryz.underlying63 (by kernel_rfl) rfl _ rfl (.tmp 5) (.tmp 5) rfl n rfl rfl rfl rfl (by omega) (by unfold maxLen; omega) ?_; intro hown)
  go_ret
  refine ⟨w.heap.size + 1, .slice (some ⟨w.heap.size, 0, none⟩) n n, rfl, ⟨?_, ?_, ⟨[], World.ownsRow_nil _ _ _ _, rfl, by simp⟩, by simp, by simp; omega, by simp⟩, by omega, ?_, ?_⟩
  · have := heap_alloc_new (w.alloc (.cells (madeCells #[.slice none 0 0] n) 22)) (.cells #[Value.slice (some ⟨w.heap.size, 0, none⟩) n n, Value.slice none 0 0, Value.bool false] 124)
    rw [World.size_alloc] at this
    exact this
  · refine ⟨List.replicate n (.slice none 0 0), ?_, by simp, ?_⟩
    · rw [List.length_replicate]; exact own_zero (hown.alloc _)
    · intro i v bs h1 h2
      have e1 := List.eq_of_mem_replicate (List.mem_of_getElem? h1)
      have e2 := List.eq_of_mem_replicate (List.mem_of_getElem? h2)
      subst e1 e2
      exact HB.nil _
  · intro k hk; cases hk; exact ⟨Nat.le_refl _, by simp⟩
  · exact ((Below.refl _ _).alloc (Nat.le_refl _) _).alloc (by simp) _

theorem setCell_u8 {w : World} {g : Nat} {cur : Array Value} {t : TypeId} (hg : w.heap[g]? = some (.cells cur t (0, 0))) (ht : t ≠ 5) (i : Nat) (x : Value) {v : Value} {bs : List Int} (h : HB w v bs) : HB (w.setCell ⟨g, i, none⟩ x) v bs :=
  h.keep fun k cur' fr hk => blk_setCell_ne hk (fun e => by simp at e; subst e; rw [hg] at hk; cases hk; exact ht rfl) x
theorem IsDrive.set_last {w : World} {b g n c : Nat} {wv v : Value} {d : DriveM} (h : IsDrive w b (.slice (some ⟨g, 0, none⟩) n c) wv d) (s : Nat) (bs : List Int) (hb : HB w v bs) :
    IsDrive (w.setCell ⟨g, s, none⟩ v) b (.slice (some ⟨g, 0, none⟩) n c) wv { d with lasts := d.lasts.set s bs } := by
  obtain ⟨ls, l1, l2⟩ := h.lasts
  obtain ⟨us, u1, u2⟩ := h.loose
  obtain ⟨cur, hg⟩ := own_ty l1 g rfl
  have hK : ∀ {u : Value} {ys : List Int}, HB w u ys → HB (w.setCell ⟨g, s, none⟩ v) u ys := fun k => setCell_u8 hg (by decide) s v k
  have hbg : b ≠ g := by rintro rfl; have := h.blk; rw [hg] at this; cases this
  refine ⟨blk_setCell_ne h.blk (by simpa using hbg) _, ⟨ls.set s v, ?_, by simpa using l2.1, ?_⟩, ⟨us, ?_, u2.1, ?_⟩, by simpa using h.inr, by simpa using h.cap, h.few⟩
  · rw [List.length_set]
    have hn : n = d.lasts.length := by obtain ⟨A, c', e, _⟩ := own_shape l1; cases e; rfl
    subst hn
    exact (l1.stored s v).1
  · intro i v' bs' h1 h2
    rw [List.getElem?_set] at h1 h2
    split at h1
    · rename_i e
      rw [if_pos e] at h2
      split at h1 <;> split at h2 <;> first | (cases h2; done) | (cases h1; done) | (cases h1; cases h2; exact hK hb)
    · rename_i e
      rw [if_neg e] at h2
      exact hK (l2.2 i v' bs' h1 h2)
  · refine own_chg u1 ((Chg.refl (fun k => k = g) w).then_setCell (a := ⟨g, s, none⟩) (.inl rfl) _) ?_
    rintro k hk rfl
    obtain ⟨cur', hk'⟩ := own_ty u1 k hk
    rw [hg] at hk'; cases hk'
  · intro i p a
    obtain ⟨e1, v, e2, e3⟩ := u2.2 i p a
    exact ⟨e1, v, e2, hK e3⟩
theorem lost_shape {v : Value} {w : World} {bs : List Int} (h : HB w v bs) : v.oneCell' = true := by obtain ⟨A, n, c, rfl⟩ := h.shape; rfl

set_option maxRecDepth 100000 in
set_option maxHeartbeats 400000 in
/-- A write lasts: its bytes are those of the slot. -/
theorem do_any (b : Nat) (lv wv v : Value) (d : DriveM) (s : Nat) (bs : List Int) (w : World) (h : IsDrive w b lv wv d) (hs : s < d.lasts.length) (hb : HB w v bs) :
    Calls Tryz.prog 136 #[dptr b, .agg #[.int .i64 s, v]] w fun e w' => e = .returned (.tuple #[]) ∧ IsDrive w' b lv wv { d with lasts := d.lasts.set s bs } ∧ Chg (fun k => lv.ownBlock = some k) w w' := by
  obtain ⟨ls, l1, l2⟩ := h.lasts
  obtain ⟨A, c, hlv, hlc⟩ := own_shape l1
  have hblk := h.blk
  have c0 : w.cell? ⟨b, 0, none⟩ = some (.slice A d.lasts.length c) := by rw [cell_of_blk h.blk, hlv]; rfl
  subst hlv
  obtain ⟨g, cur, rfl, _, _, hnc, hg, hcs, htk, hcell⟩ := own_pos l1 (by omega)
  obtain ⟨A', n', c', rfl⟩ := hb.shape
  obtain ⟨v0, hv0, hb0⟩ := l2.at_ s hs
  have c1 : w.cell? ⟨g, s, none⟩ = some v0 := by rw [hcell s (by omega), hv0]
  have f1 := frozen_of_blk hg s
  have hbig := blk_lt h.blk
  have hgig := blk_lt hg
  have hcap := h.cap
  have H := Lib.hid h
  have HS := Lib.hid hs
  generalize hn : d.lasts.length = n at *
  have HN := Lib.hid hn
  clear h hcell hlc hv0 hb0 l1 l2 hn hblk hcs htk hg
  unfold dptr
  go_enter Tryz.func136, Tryz.ntmps136
  go_wp2
  go_region
  all_goals go_wp2
  go_end0
  refine ⟨rfl, (((H.out.set_last s bs hb).below ((Below.refl _ _).alloc (Nat.le_refl _) _)).below (below_drew' (Below.refl _ _))), (((Chg.refl (fun k => (Value.slice (some ⟨g, 0, none⟩) n c).ownBlock = some k) w).then_setCell (a := ⟨g, s, none⟩) (.inl rfl) _).then_alloc _).then_drew⟩

theorem drive_put_loose {w : World} {b : Nat} {lv wv wv' : Value} {lasts : List (List Int)} {loose : List (Int × List Int)} {l : Bool} (hb : w.heap[b]? = some (.cells #[lv, wv, .bool l] 124 (0, 0)))
    (hl : ∃ ls, w.ownsRow 0 22 1 lv lasts.length ls ∧ AllHB w ls lasts) (hw : ∃ us, w.ownsRow 0 149 2 wv' loose.length us ∧ AllW w us loose)
    (hi : ∀ p ∈ loose, 0 ≤ p.1 ∧ p.1 < lasts.length) (hc : lasts.length ≤ 128) (hf : loose.length ≤ 1000000) : IsDrive (w.setCell ⟨b, 1, none⟩ wv') b lv wv' ⟨lasts, loose, l⟩ := by
  obtain ⟨ls, l1, l2⟩ := hl
  obtain ⟨us, u1, u2⟩ := hw
  have hch : Chg (fun k => k = b) w (w.setCell ⟨b, 1, none⟩ wv') := (Chg.refl (fun k => k = b) w).then_setCell (a := ⟨b, 1, none⟩) (.inl rfl) _
  have hne : ∀ {e : TypeId} {s n : Nat} {v : Value} {xs : List Value}, e ≠ 124 → w.ownsRow 0 e s v n xs → ∀ k, v.ownBlock = some k → ¬ k = b := by
    rintro e s n v xs he ho k hk rfl
    obtain ⟨cur, h⟩ := own_ty ho k hk
    rw [hb] at h; cases h; exact he rfl
  have hu8 : ∀ (k : Nat) (cur : Array Value) (fr : Nat × Nat), k = b → w.heap[k]? ≠ some (.cells cur 5 fr) := by
    rintro k cur fr rfl e; rw [hb] at e; cases e
  refine ⟨blk_setCell hb 1 _, ⟨ls, own_chg l1 hch (hne (by decide) l1), l2.1, fun i v bs a c => (l2.2 i v bs a c).chg hch hu8⟩, ⟨us, own_chg u1 hch (hne (by decide) u1), u2.1, fun i p a => ?_⟩, hi, hc, hf⟩
  obtain ⟨e1, v, e2, e3⟩ := u2.2 i p a
  exact ⟨e1, v, e2, e3.chg hch hu8⟩
def flushL (l : List (List Int)) (loose : List (Int × List Int)) : List (List Int) := loose.foldl (fun l p => l.set p.1.toNat p.2) l
theorem flushL_length (l : List (List Int)) (loose : List (Int × List Int)) : (flushL l loose).length = l.length := by
  unfold flushL
  induction loose generalizing l with
  | nil => rfl
  | cons p r ih => rw [List.foldl_cons, ih, List.length_set]
theorem flushL_snoc (l : List (List Int)) (r : List (Int × List Int)) (p : Int × List Int) : flushL l (r ++ [p]) = (flushL l r).set p.1.toNat p.2 := by simp [flushL, List.foldl_append]

set_option maxRecDepth 100000 in
set_option maxHeartbeats 1000000 in
theorem dflush_any (b : Nat) (lv wv : Value) (d : DriveM) (w : World) (h : IsDrive w b lv wv d) (hl : d.lost = false) :
    Calls Tryz.prog 97 #[dptr b] w fun e w' => e = .returned (.int .i64 0) ∧ IsDrive w' b lv (.slice none 0 0) { d with lasts := flushL d.lasts d.loose, loose := [] } ∧ Chg (fun k => k = b ∨ lv.ownBlock = some k) w w' := by
  obtain ⟨us, u1, u2⟩ := h.loose
  obtain ⟨A, c, hwv, hlc⟩ := own_shape u1
  have hblk := h.blk
  have c1 : w.cell? ⟨b, 1, none⟩ = some (.slice A d.loose.length c) := by rw [cell_of_blk h.blk, hwv]; rfl
  have c2 : w.cell? ⟨b, 2, none⟩ = some (.bool false) := by rw [cell_of_blk h.blk, hl]; rfl
  have hfew := h.few
  obtain ⟨n, hn⟩ : ∃ n, d.loose.length = n := ⟨_, rfl⟩
  rw [hn] at c1 hlc hfew
  have H := Lib.hid h
  have HN := Lib.hid hn
  have HV := Lib.hid hwv
  clear h hn hblk u1 u2
  unfold dptr
  go_enter Tryz.func97, Tryz.ntmps97
  go_wp2
  go_loopw [18] (fun i wr => ∃ k : Nat, k ≤ n ∧ i = .int .i64 k ∧ IsDrive wr b lv wv { d with lasts := flushL d.lasts (d.loose.take k) } ∧ Chg (fun k => lv.ownBlock = some k) w wr) (fun i _ => n - (intOf i).toNat)
  case atStart => exact ⟨0, by omega, rfl, by simpa [flushL] using H.out, Chg.refl _ _⟩
  case round =>
    obtain ⟨k, hk, rfl, hd, hch⟩ := hrel
    by_cases hlt : k < n
    · obtain ⟨us', v1, v2⟩ := hd.loose
      obtain ⟨v, e1, e2, e3⟩ := v2.at_ k (by rw [HN.out]; exact hlt)
      have hwv := HV.out
      subst hwv
      have hp : 0 < d.loose.length := by rw [HN.out]; omega
      obtain ⟨g, cur, rfl, _, _, _, _, _, _, hcell⟩ := own_pos v1 hp
      obtain ⟨A', n', c', rfl⟩ := e3.shape
      have hr := H.out.inr (d.loose[k]?.getD (0, [])) (by rw [List.getElem?_eq_getElem (by rw [HN.out]; exact hlt)]; exact List.getElem_mem _)
      have q1 : wr.cell? ⟨g, k * 2, none⟩ = some (.int .i64 (d.loose[k]?.getD (0, [])).1) := by rw [hcell _ (by simp only []; rw [HN.out]; omega), Nat.mul_comm]; exact e1
      have q2 : wr.cell? ⟨g, k * 2 + 1, none⟩ = some (.slice A' n' c') := by rw [hcell _ (by simp only []; rw [HN.out]; omega), Nat.mul_comm]; exact e2
      have hsn := take_snoc d.loose k (by rw [HN.out]; exact hlt) (0, [])
      generalize hpp : (d.loose[k]?.getD (0, [])) = p at *
      have HS := Lib.hid hsn
      obtain ⟨s, bs⟩ := p
      obtain ⟨s, rfl⟩ := Int.eq_ofNat_of_zero_le hr.1
      simp only at q1 q2 e3 hr
      have hs : s < ({ d with lasts := flushL d.lasts (d.loose.take k) } : DriveM).lasts.length := by simp only [flushL_length]; omega
      have hd1 := hd.below ((Below.refl _ wr).alloc (Nat.le_refl _) (.cells #[Value.int .i64 s, Value.slice A' n' c'] 149))
      have e4 := e3.below ((Below.refl _ wr).alloc (Nat.le_refl _) (.cells #[Value.int .i64 s, Value.slice A' n' c'] 149))
      have hch1 := hch.then_alloc (.cells #[Value.int .i64 s, Value.slice A' n' c'] 149)
      clear hcell e1 e2 v1 v2 hsn hpp hd e3 hch
      go_wp2_with fail
      refine (do_any _ _ _ _ _ s bs _ hd1 hs e4).mono ?_
      rintro e w2 ⟨rfl, hd2, hch2⟩
      go_wp2
      go_roundw
      case rel => exact ⟨k + 1, by omega, by go_num, by rw [HS.out, flushL_snoc]; exact hd2, hch1.trans hch2 (fun _ _ x => x)⟩
      case measure => simp [intOf]; omega
    · have hk' : k = n := by omega
      subst hk'
      rw [List.take_of_length_le (by rw [HN.out]; omega)] at hd
      have q1 : wr.cell? ⟨b, 1, none⟩ = some wv := by rw [cell_of_blk hd.blk]; rfl
      have f1 := frozen_of_blk hd.blk 1
      have HD := Lib.hid hd
      obtain ⟨ls, l1, l2⟩ := hd.lasts
      have L1 := Lib.hid l1
      have L2 := Lib.hid l2
      have hbk := hd.blk
      have HBK := Lib.hid hbk
      have HC := Lib.hid hch
      clear hd l1 l2 hbk hch
      go_wp2
      go_ret
      have hbk := HBK.out
      rw [hl] at hbk
      refine ⟨rfl, drive_put_loose hbk ⟨ls, L1.out, L2.out⟩ ⟨[], World.ownsRow_nil _ _ _ _, rfl, by simp⟩ (by simp) (by rw [flushL_length]; exact H.out.cap) (by simp), ?_⟩
      exact (HC.out.mono (fun _ _ x => .inr x)).then_setCell (a := ⟨b, 1, none⟩) (.inl (.inl rfl)) _

theorem EW_one {v : Value} {w : World} {bs : List Int} (h : HB w v bs) (s : Int) : ∀ u ∈ [Value.int .i64 s, v], u.oneCell' = true := by
  intro u hu
  simp only [List.mem_cons, List.not_mem_nil, or_false] at hu
  rcases hu with rfl | rfl
  · rfl
  · exact lost_shape h
theorem u8_ne {w : World} {B e s n : Nat} {v : Value} {xs : List Value} (ho : w.ownsRow B e s v n xs) (he : e ≠ 5) : ∀ (k : Nat) (cur : Array Value) (fr : Nat × Nat), v.ownBlock = some k → w.heap[k]? ≠ some (.cells cur 5 fr) := by
  intro k cur fr hk e'
  obtain ⟨cur', h⟩ := own_ty ho k hk
  rw [e'] at h; cases h; exact he rfl
theorem own_ne {w : World} {B e s n B' e' s' n' : Nat} {v v' : Value} {xs xs' : List Value} (h : w.ownsRow B e s v n xs) (h' : w.ownsRow B' e' s' v' n' xs') (he : e ≠ e') : ∀ k, v.ownBlock = some k → ¬ v'.ownBlock = some k := by
  intro k hk hk'
  obtain ⟨c1, e1⟩ := own_ty h k hk
  obtain ⟨c2, e2⟩ := own_ty h' k hk'
  rw [e1] at e2; cases e2; exact he rfl
theorem write_close {w w1 w2 : World} {b : Nat} {lv wv v1 v2 : Value} {d : DriveM} {s : Int} {bs : List Int} {us : List Value} (h : IsDrive w b lv wv d) (hc : d.check s = 0) (u1 : w.ownsRow 0 149 2 wv d.loose.length us) (u2 : AllW w us d.loose) (hf : d.loose.length < 1000000)
    (hB2 : Below w.heap.size w w1) (hb1 : HB w1 v1 bs) {o : Obj}
    (ho2 : w2.ownsRow 0 149 2 v2 (d.loose.length + 1) (us ++ [Value.int .i64 s, v1])) (hg2 : Grow (w1.alloc o) w2 wv v2) :
    IsDrive (w2.setCell ⟨b, 1, none⟩ v2) b lv v2 { d with loose := d.loose ++ [(s, bs)] } ∧ (v2.ownBlock = wv.ownBlock ∨ ∀ k, v2.ownBlock = some k → w.heap.size ≤ k) ∧ Chg (fun k => k = b ∨ wv.ownBlock = some k) w (w2.setCell ⟨b, 1, none⟩ v2) := by
  have hB3 : Below w.heap.size w (w1.alloc o) := hB2.alloc hB2.size o
  obtain ⟨ls, l1, l2⟩ := h.lasts
  obtain ⟨_, h0, h1⟩ := check_zero hc
  have hch : Chg (fun k => wv.ownBlock = some k) w w2 := (Chg.of_below hB3).trans hg2.chg (fun _ _ x => x)
  have hne : ∀ k, wv.ownBlock = some k → k ≠ b := by
    rintro k hk rfl
    obtain ⟨cur, e⟩ := own_ty u1 k hk
    have := h.blk
    rw [e] at this; cases this
  have hK : ∀ {v : Value} {ys : List Int}, HB w v ys → HB w2 v ys := fun k => k.chg hch (u8_ne u1 (by decide))
  have hb3 : HB w2 v1 bs := (hb1.below ((Below.refl _ w1).alloc (Nat.le_refl _) o)).chg hg2.chg (u8_ne (own_below u1 hB3) (by decide))
  refine ⟨drive_put_loose (hch.blk h.blk fun e => hne _ e rfl) ⟨ls, own_chg l1 hch (own_ne l1 u1 (by decide)), l2.1, fun i v ys a c => hK (l2.2 i v ys a c)⟩ ⟨us ++ [.int .i64 s, v1], by simpa using ho2, by simp [u2.1]; omega, ?_⟩ ?_ h.cap (by simp; omega), ?_, ?_⟩
  · intro i p hi
    rcases Nat.lt_or_ge i d.loose.length with hlt | hge
    · rw [List.getElem?_append_left hlt] at hi
      obtain ⟨e1, v, e2, e3⟩ := u2.2 i p hi
      have hl := u2.1
      exact ⟨by rw [List.getElem?_append_left (by omega)]; exact e1, v, by rw [List.getElem?_append_left (by omega)]; exact e2, hK e3⟩
    · rw [List.getElem?_append_right hge] at hi
      have hi0 : i = d.loose.length := by
        have := (List.getElem?_eq_some_iff.1 hi).1
        simp at this; omega
      subst hi0
      simp at hi; subst hi
      have hl := u2.1
      refine ⟨?_, v1, ?_, hb3⟩
      · rw [List.getElem?_append_right (by omega)]; rw [show 2 * d.loose.length - us.length = 0 from by omega]; rfl
      · rw [List.getElem?_append_right (by omega)]; rw [show 2 * d.loose.length + 1 - us.length = 1 from by omega]; rfl
  · intro p hp
    rcases List.mem_append.1 hp with hp | hp
    · exact h.inr p hp
    · simp at hp; subst hp; exact ⟨h0, h1⟩
  · rcases hg2.at_ with e | e
    · exact .inl e
    · exact .inr fun k hk => Nat.le_trans hB3.size (e k hk)
  · exact (hch.mono fun _ _ x => .inr x).then_setCell (a := ⟨b, 1, none⟩) (.inl (.inl rfl)) _
set_option maxRecDepth 100000 in
set_option maxHeartbeats 1000000 in
theorem dwrite_any (b : Nat) (lv wv v : Value) (d : DriveM) (s : Int) (bs : List Int) (w : World) (h : IsDrive w b lv wv d) (hc : d.check s = 0) (hv : HB w v bs) (hl : bs.length ≤ 64) (hf : d.loose.length < 1000000) :
    Calls Tryz.prog 100 #[dptr b, .int .i64 s, v] w fun e w' => e = .returned (.int .i64 0) ∧ ∃ wv', IsDrive w' b lv wv' { d with loose := d.loose ++ [(s, bs)] } ∧ (wv'.ownBlock = wv.ownBlock ∨ ∀ k, wv'.ownBlock = some k → w.heap.size ≤ k) ∧ Chg (fun k => k = b ∨ wv.ownBlock = some k) w w' := by
  have CK := check_any b lv wv d s w h
  rw [hc] at CK
  have CKH := Lib.hid hc
  obtain ⟨us, u1, u2⟩ := h.loose
  obtain ⟨A, n, c, rfl⟩ := hv.shape
  have hn : n ≤ 64 := by rw [(hv.cell).1]; exact hl
  have c1 : w.cell? ⟨b, 1, none⟩ = some wv := by rw [cell_of_blk h.blk]; rfl
  have f1 := frozen_of_blk h.blk 1
  have H := Lib.hid h
  have HF := Lib.hid hf
  have HV := Lib.hid hv
  have B1 := Lib.hid (show (d.loose.length + 1) * 32 ≤ 140737488355328 by omega)
  have B2 := Lib.hid (show d.loose.length + 1 ≤ maxLen by unfold maxLen; omega)
  have hblt := blk_lt h.blk
  have U2 := Lib.hid u2
  have hne : ∀ k, wv.ownBlock = some k → k ≠ b := by
    rintro k hk rfl
    obtain ⟨cur, e⟩ := own_ty u1 k hk
    have := h.blk
    rw [e] at this; cases this
  have HNE := Lib.hid hne
  clear h hc hf hl u2 hne
  unfold dptr at *
  go_enter Tryz.func100, Tryz.ntmps100
  go_wp2_with (go_at_call 108; refine CK.mono ?_; rintro e w' ⟨rfl, rfl⟩)
  go_region_law (first
    | (go_simp; go_at_call 46; refine (clone_any _ _ _ HV.out.drew).mono ?_; rintro e w1 ⟨v1, rfl, _, hb1, hB1⟩; obtain ⟨A1, n1, k1, rfl⟩ := hb1.shape; have hB2 : Below w.heap.size w w1 := (below_drew' (Below.refl _ w)).trans hB1; have c2 : w1.cell? ⟨b, 1, none⟩ = some wv := (by rw [cell_of_blk (below_blk hB2 H.out.blk)]; rfl); have hlt1 := blk_lt (below_blk hB2 H.out.blk))
    | (refine step_app Tryz.EW _ rfl (.tmp 21) (.tmp 26) rfl rfl ((own_below u1 hB2).alloc _) rfl (Src.alloc w1 2 [_, _] _ 1 rfl) (EW_one hb1 _) B1.out B2.out ?_; intro v2 w2 ho2 hg2 _; obtain ⟨A2, k2, rfl, _⟩ := own_shape ho2; have hbk := hg2.chg.blk (blk_alloc (below_blk hB2 H.out.blk) _) (fun e => HNE.out _ e rfl); have c3 : w2.cell? ⟨b, 1, none⟩ = some wv := (by rw [cell_of_blk hbk]; rfl); have f3 := frozen_of_blk hbk 1))
  all_goals go_wp2
  all_goals go_ret
  all_goals exact ⟨rfl, _, write_close H.out CKH.out u1 U2.out HF.out hB2 hb1 ho2 hg2⟩

def readL (b0 : List Int) (loose : List (Int × List Int)) (s : Int) : List Int := loose.foldl (fun b p => if p.1 = s then p.2 else b) b0
theorem readL_snoc (b0 : List Int) (l : List (Int × List Int)) (p : Int × List Int) (s : Int) : readL b0 (l ++ [p]) s = if p.1 = s then p.2 else readL b0 l s := by simp [readL, List.foldl_append]
/-- What a slot holds: what was written last, be it loose or not. -/
def DriveM.readAt (d : DriveM) (s : Int) : List Int := if d.check s = 0 then readL (d.lasts[s.toNat]?.getD []) d.loose s else []
set_option maxRecDepth 100000 in
set_option maxHeartbeats 1000000 in
theorem dread_any (b : Nat) (lv wv : Value) (d : DriveM) (s : Int) (w : World) (h : IsDrive w b lv wv d) :
    Calls Tryz.prog 63 #[dptr b, .int .i64 s] w fun e w' => ∃ v', e = .returned (.tuple #[v', .int .i64 (d.check s)]) ∧ HB w' v' (d.readAt s) ∧ Below w.heap.size w w' := by
  have LA := lasts_any b lv wv d s w h
  by_cases hc : d.check s = 0
  · obtain ⟨us, u1, u2⟩ := h.loose
    obtain ⟨A, c, hwv, hlc⟩ := own_shape u1
    have c1 : w.cell? ⟨b, 1, none⟩ = some (.slice A d.loose.length c) := by rw [cell_of_blk h.blk, hwv]; rfl
    have hlt0 := blk_lt h.blk
    have hfew := h.few
    have hra : d.readAt s = readL (d.lastAt s) d.loose s := by simp [DriveM.readAt, DriveM.lastAt, hc]
    rw [hra]
    rw [hc] at LA ⊢
    generalize d.lastAt s = b0 at *
    obtain ⟨n, hn⟩ : ∃ n, d.loose.length = n := ⟨_, rfl⟩
    rw [hn] at c1 hlc hfew
    have H := Lib.hid h
    have HN := Lib.hid hn
    have HV := Lib.hid hwv
    clear h hn u1 u2 hra hc hwv
    unfold dptr at *
    go_enter Tryz.func63, Tryz.ntmps63
    go_wp2_with fail
    refine LA.mono ?_
    rintro e w1 ⟨v1, rfl, hv1, hB1⟩
    have q1 : w1.cell? ⟨b, 1, none⟩ = some (.slice A n c) := (hB1.cell (p := ⟨b, 1, none⟩) hlt0).trans c1
    have HB1 := Lib.hid hB1
    clear c1 hB1
    go_wp2
    go_loopw [6, 24] (fun u i wr => ∃ k : Nat, k ≤ n ∧ i = .int .i64 k ∧ HB wr u (readL b0 (d.loose.take k) s) ∧ Below w.heap.size w wr) (fun _ i _ => n - (intOf i).toNat)
    case atStart => exact ⟨0, by omega, rfl, by simpa [readL] using hv1, HB1.out⟩
    case round =>
      obtain ⟨k, hk, rfl, hu, hB2⟩ := hrel
      by_cases hlt : k < n
      · obtain ⟨us', v1, v2⟩ := (H.out.below hB2).loose
        obtain ⟨v, e1, e2, e3⟩ := v2.at_ k (by rw [HN.out]; exact hlt)
        have hwv := HV.out
        subst hwv
        have hp : 0 < d.loose.length := by rw [HN.out]; omega
        obtain ⟨g, cur, rfl, _, _, _, hgb, _, _, hcell⟩ := own_pos v1 hp
        have hglt := blk_lt hgb
        obtain ⟨A', n', c', rfl⟩ := e3.shape
        have q1 : wr.cell? ⟨g, k * 2, none⟩ = some (.int .i64 (d.loose[k]?.getD (0, [])).1) := by rw [hcell _ (by rw [HN.out]; omega), Nat.mul_comm]; exact e1
        have q2 : wr.cell? ⟨g, k * 2 + 1, none⟩ = some (.slice A' n' c') := by rw [hcell _ (by rw [HN.out]; omega), Nat.mul_comm]; exact e2
        have hsn := take_snoc d.loose k (by rw [HN.out]; exact hlt) (0, [])
        generalize hpp : (d.loose[k]?.getD (0, [])) = p at *
        have HS := Lib.hid hsn
        obtain ⟨s', bs⟩ := p
        simp only at q1 q2 e3
        have e4 := e3.below ((Below.refl _ wr).alloc (Nat.le_refl _) (.cells #[Value.int .i64 s', Value.slice A' n' c'] 149))
        have hu2 := hu.below ((Below.refl _ wr).alloc (Nat.le_refl _) (.cells #[Value.int .i64 s', Value.slice A' n' c'] 149))
        have hB3 := hB2.alloc hB2.size (.cells #[Value.int .i64 s', Value.slice A' n' c'] 149)
        have HB3 := Lib.hid hB3
        clear hcell e1 e2 v1 v2 hsn hpp e3 hgb hB2 hB3
        by_cases hs : s' = s
        · subst hs
          go_wp2_with (go_at_call 46; refine (clone_any _ _ _ e4).mono ?_; rintro e w3 ⟨v3, rfl, _, hv3, hB4⟩)
          go_roundw
          case rel => exact ⟨k + 1, by omega, by go_num, by rw [HS.out, readL_snoc, if_pos rfl]; exact hv3, HB3.out.trans (hB4.mono HB3.out.size)⟩
          case measure => simp [intOf]; omega
        · have hsb : (s' == s) = false := by simpa using hs
          go_wp2
          go_roundw
          case rel => exact ⟨k + 1, by omega, by go_num, by rw [HS.out, readL_snoc, if_neg hs]; exact hu2, HB3.out⟩
          case measure => simp [intOf]; omega
      · have hk' : k = n := by omega
        subst hk'
        rw [List.take_of_length_le (by rw [HN.out]; omega)] at hu
        go_wp2
        go_ret2
        exact ⟨_, rfl, hu, hB2⟩
  · have hla : d.readAt s = [] := by simp [DriveM.readAt, hc]
    have hll : d.lastAt s = [] := by simp [DriveM.lastAt, hc]
    rw [hla]
    rw [hll] at LA
    have hb : (d.check s != 0) = true := by rw [bne_iff_ne]; exact hc
    generalize d.check s = x at *
    clear h hla hll hc
    unfold dptr at *
    go_enter Tryz.func63, Tryz.ntmps63
    go_wp2_with fail
    refine LA.mono ?_
    rintro e w1 ⟨v1, rfl, hv1, hB1⟩
    go_wp2
    go_ret2
    exact ⟨_, rfl, HB.nil _, hB1⟩
end Go.Proofs.YtblddkjdglliaaaGreatDoor
