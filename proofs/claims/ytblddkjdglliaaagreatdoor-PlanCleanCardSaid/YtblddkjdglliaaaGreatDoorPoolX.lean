/- Contracts of package pool: write, Store, Load, Erase, Flush, Lasts, Held, Free, New, Add, Len. Conditions: a pool that lies as IsPool says. -/
import Derived.Test.YtblddkjdglliaaaGreatDoorPoolW
namespace Go.Proofs.YtblddkjdglliaaaGreatDoor
open Go.RowKit

def PoolM.putLoose (m : PoolM) (i : Nat) (at_ : Int) (bs : List Int) : PoolM := { m with list := m.list.set i { (m.list[i]?.getD .gone) with loose := (m.list[i]?.getD .gone).loose ++ [(at_, bs)] } }
def PoolM.writeAt (m : PoolM) (i : Nat) (at_ : Int) (bs : List Int) : Int × PoolM := if m.burn.1 then (0, m.burn.2.putLoose i at_ bs) else (9, m.burn.2)
theorem burn_list (m : PoolM) : m.burn.2.list = m.list := by
  unfold PoolM.burn; split
  · rfl
  · split <;> rfl
theorem PFp_drive {p : Nat} {L : Lay} {i : Nat} {x : Nat × Value × Value} (h : L.ds[i]? = some x) {k : Nat} (hk : DFp x.1 x.2.1 x.2.2 k) : PFp p L k := .inr (.inr ⟨x, List.mem_of_getElem? h, hk⟩)

/-- The pointer of a drive that there is, in memory. -/
theorem IsPool.cells {w : World} {p : Nat} {L : Lay} {m : PoolM} (h : IsPool w p L m) {i : Nat} {x : Nat × Value × Value} (hx : L.ds[i]? = some x) :
    ∃ g c, w.cell? ⟨p, 0, none⟩ = some (.slice (some ⟨g, 0, none⟩) m.list.length c) ∧ w.cell? ⟨g, i, none⟩ = some (.pointer (some ⟨x.1, 0, none⟩)) ∧ m.list.length ≤ c ∧ i < m.list.length ∧ m.list.length ≤ 12 := by
  have hi : i < m.list.length := by rw [← h.len]; exact (List.getElem?_eq_some_iff.1 hx).1
  obtain ⟨A, c, hpv, hlc⟩ := own_shape h.row
  obtain ⟨g, cur, rfl, _, _, _, _, _, _, hcell⟩ := own_pos (hpv ▸ h.row) (by omega)
  refine ⟨g, c, by rw [cell_of_blk h.blk, hpv]; rfl, ?_, hlc.1, hi, h.few⟩
  rw [hcell i (by omega), List.getElem?_map, hx]; rfl

set_option maxRecDepth 100000 in
set_option maxHeartbeats 400000 in
theorem pwrite_any (p : Nat) (L : Lay) (m : PoolM) (i : Nat) (x : Nat × Value × Value) (d : DriveM) (at_ : Int) (v : Value) (bs : List Int) (w : World) (h : IsPool w p L m)
    (hx : L.ds[i]? = some x) (hd : m.list[i]? = some d) (hc : d.check at_ = 0) (hv : HB w v bs) (hl : bs.length ≤ 64) (hf : d.loose.length < 1000000) :
    Calls Tryz.prog 60 #[pptr p, .int .i64 i, .int .i64 at_, v] w fun e w' => ∃ L', e = .returned (.int .i64 (m.writeAt i at_ bs).1) ∧ IsPool w' p L' (m.writeAt i at_ bs).2 ∧ PStep p w w' L L' := by
  have BU := burn_any p L m w h
  have hbl := burn_list m
  unfold PoolM.writeAt
  generalize m.burn = mb at *
  obtain ⟨ok, m1⟩ := mb
  simp only at BU hbl ⊢
  have HBL := Lib.hid hbl
  have HH := Lib.hid h
  have HX := Lib.hid hx
  have HD := Lib.hid hd
  have HC := Lib.hid hc
  have HVV := Lib.hid hv
  clear h hbl hx hd hc hv
  cases ok
  · simp only [Bool.false_eq_true, if_false]
    go_enter Tryz.func60, Tryz.ntmps60
    go_wp2_with fail
    refine BU.mono ?_
    rintro e w1 ⟨rfl, h1, h2, _⟩
    go_wp2
    go_ret
    exact ⟨L, rfl, h1, h2⟩
  · simp only [if_true]
    go_enter Tryz.func60, Tryz.ntmps60
    go_wp2_with fail
    refine BU.mono ?_
    rintro e w1 ⟨rfl, h1, h2, hch⟩
    obtain ⟨g, c, c1, c2, c3, c4, c5⟩ := h1.cells HX.out
    have hd1 : m1.list[i]? = some d := by rw [HBL.out]; exact HD.out
    have hi : i < m1.list.length := c4
    have hdr := h1.drives i x d HX.out hd1
    have hv1 : HB w1 v bs := HVV.out.chg hch (by rintro k cur fr rfl e; rw [HH.out.blk] at e; cases e)
    have WR := dwrite_any x.1 x.2.1 x.2.2 v d at_ bs w1 hdr HC.out hv1 hl hf
    unfold dptr at WR
    have H1 := Lib.hid h1
    have H2 := Lib.hid h2
    have HD1 := Lib.hid hd1
    generalize m1.list.length = q at *
    clear h1 h2 hd1 hdr hv1
    generalize hxb : x.1 = b at *
    unfold pptr at *
    go_wp2_with fail
    refine WR.mono ?_
    rintro e w2 ⟨rfl, wv', hd2, hf2, hch2⟩
    go_wp2
    go_ret
    have SD := H1.out.set_drive (y := (x.1, x.2.1, wv')) (d' := { d with loose := d.loose ++ [(at_, bs)] }) HX.out (List.getElem?_eq_some_iff.1 HD1.out).1 (hch2.mono ?_) (by rw [hxb]; exact hd2) rfl ?_
    · refine ⟨_, rfl, ?_, H2.out.trans SD.2⟩
      have e : m1.putLoose i at_ bs = { m1 with list := m1.list.set i { d with loose := d.loose ++ [(at_, bs)] } } := by
        unfold PoolM.putLoose; rw [HD1.out]; rfl
      rw [e]; exact SD.1
    · rintro k _ (rfl | hk)
      · exact .inl hxb.symm
      · exact .inr (.inr hk)
    · rintro k (rfl | hk | hk)
      · exact .inl (.inl rfl)
      · exact .inl (.inr (.inl hk))
      · rcases hf2 with e | e
        · exact .inl (.inr (.inr (e ▸ hk)))
        · exact .inr (e k hk)

theorem free_any (p : Nat) (L : Lay) (m : PoolM) (n : Int) (w : World) (h : IsPool w p L m) :
    Calls Tryz.prog 58 #[pptr p, .int .i64 n, .func (.func 59) #[] #[]] w fun e w' => e = .returned (.int .i64 (m.free n)) ∧ Below w.heap.size w w' := by
  refine (each_any p L m n 59 #[] w h Tryz.funStore (fun bs => !openOk bs) (fun _ W' => Below w.heap.size w W') (Below.refl _ _) (fun _ W1 W2 h1 h2 => h1.trans (h2.mono h1.size)) (fun _ W1 h1 => h.below h1) ?_).mono ?_
  · intro k W1 v _ hB _
    refine (store_cl _ _ _ v W1).mono ?_
    rintro e w' ⟨rfl, rfl⟩
    exact ⟨rfl, hB⟩
  · rintro e w' ⟨rfl, k, _, hB, _⟩
    exact ⟨rfl, hB⟩

/-- Where a shard goes: its own slot, or the first that is free. -/
def PoolM.place (m : PoolM) (n st ps : Int) : Int := if m.find n st ps < 0 then m.free n else m.find n st ps
def PoolM.store (m : PoolM) (n st ps : Int) (bs : List Int) : Int × PoolM :=
  match m.drive? n with
  | none => (1, m)
  | some d => if d.lost then (8, m) else if m.place n st ps < 0 then (3, m) else m.writeAt n.toNat (m.place n st ps) (frameL st ps bs)
def PoolM.room (m : PoolM) : Prop := ∀ d ∈ m.list, d.loose.length < 1000000
theorem find_range (m : PoolM) (n st ps : Int) : -1 ≤ m.find n st ps ∧ m.find n st ps < max (m.capN n) 1 := by
  unfold PoolM.find
  rcases firstI_cases (m.capN n) (fun i => isAt st ps (m.slot n i)) with ⟨h, _⟩ | ⟨k, h1, h2, _⟩
  · rw [h]; omega
  · rw [h2]; omega
theorem free_range (m : PoolM) (n : Int) : -1 ≤ m.free n ∧ m.free n < max (m.capN n) 1 := by
  unfold PoolM.free
  rcases firstI_cases (m.capN n) (fun i => !openOk (m.slot n i)) with ⟨h, _⟩ | ⟨k, h1, h2, _⟩
  · rw [h]; omega
  · rw [h2]; omega
theorem place_check {m : PoolM} {n st ps : Int} {d : DriveM} (hd : m.drive? n = some d) (hl : d.lost = false) (h : ¬ m.place n st ps < 0) : d.check (m.place n st ps) = 0 := by
  have hc : m.capN n = d.lasts.length := by unfold PoolM.capN; rw [hd]; simp [DriveM.capI, hl]
  have key : m.place n st ps < d.lasts.length := by
    unfold PoolM.place at h ⊢
    split at h
    · rename_i e
      rw [if_pos e]
      rcases firstI_cases (m.capN n) (fun i => !openOk (m.slot n i)) with ⟨h1, _⟩ | ⟨k, h1, h2, _⟩
      · exact absurd (show m.free n < 0 by unfold PoolM.free; rw [h1]; decide) h
      · unfold PoolM.free; rw [h2]; omega
    · rename_i e
      rw [if_neg e]
      rcases firstI_cases (m.capN n) (fun i => isAt st ps (m.slot n i)) with ⟨h1, _⟩ | ⟨k, h1, h2, _⟩
      · exact absurd (show m.find n st ps < 0 by unfold PoolM.find; rw [h1]; decide) e
      · unfold PoolM.find; rw [h2]; omega
  unfold DriveM.check
  rw [hl]
  simp only [Bool.false_eq_true, if_false]
  rw [if_neg h, if_neg (by omega)]

set_option maxRecDepth 100000 in
set_option maxHeartbeats 1000000 in
theorem pstore_any (p : Nat) (L : Lay) (m : PoolM) (n st ps : Int) (v : Value) (bs : List Int) (w : World) (h : IsPool w p L m) (hr : m.room)
    (hs0 : 0 ≤ st) (hs1 : st ≤ 1073741824) (hp0 : 0 ≤ ps) (hp1 : ps ≤ 255) (hv : HB w v bs) (hl : bs.length ≤ 50) :
    Calls Tryz.prog 27 #[pptr p, .int .i64 n, .int .i64 st, .int .i64 ps, v] w fun e w' => ∃ L', e = .returned (.int .i64 (m.store n st ps bs).1) ∧ IsPool w' p L' (m.store n st ps bs).2 ∧ PStep p w w' L L' := by
  have DR := pdrive_any p L m n w h
  have US := usable_any p L m n w h
  have FI := find_any p L m n st ps w h
  have hfr := find_range m n st ps
  have hrr := free_range m n
  have hcl := cap_le h n
  rcases h.at_cases n with ⟨e1, e2⟩ | ⟨i, x, d, q1, q2, q3, q4, e1, e2, hd⟩
  · rw [e2] at DR
    have hm : m.store n st ps bs = (1, m) := by unfold PoolM.store; rw [e1]
    rw [hm]
    have H := Lib.hid h
    obtain ⟨A, k, c, rfl⟩ := hv.shape
    unfold pptr at *
    clear h e1 e2 hm US FI hr
    go_enter Tryz.func27, Tryz.ntmps27
    go_wp2_with (go_at_call 39; refine DR.mono ?_; rintro e w' ⟨rfl, rfl⟩)
    go_ret
    exact ⟨L, rfl, H.out, PStep.of_below (Below.refl _ _)⟩
  · rw [e2] at DR
    have hu : m.usable n = if d.lost then 8 else 0 := by unfold PoolM.usable; rw [e1]
    rw [hu] at US
    obtain ⟨A, k, c, rfl⟩ := hv.shape
    have hk : k ≤ 50 := by rw [(hv.cell).1]; exact hl
    have hm : m.store n st ps bs = if d.lost then (8, m) else if m.place n st ps < 0 then (3, m) else m.writeAt i (m.place n st ps) (frameL st ps bs) := by
      unfold PoolM.store; rw [e1, q1, Int.toNat_natCast]
    rw [hm]
    have H := Lib.hid h
    have HV := Lib.hid hv
    have HR := Lib.hid (hr d (List.mem_of_getElem? q4))
    have Q3 := Lib.hid q3
    have Q4 := Lib.hid q4
    have hpc := place_check (st := st) (ps := ps) e1
    generalize hlost : d.lost = lo at *
    unfold dptr at DR
    generalize x.1 = b at DR
    subst q1
    cases lo
    · simp only [Bool.false_eq_true, if_false] at US ⊢
      have hpc := hpc rfl
      have HPC := Lib.hid hpc
      have HL := Lib.hid hlost
      clear h hv hu hm e1 e2 q2 q3 q4 hd hr hl hlost hpc
      by_cases hf : m.find i st ps < 0
      · have hpl : m.place i st ps = m.free i := by unfold PoolM.place; rw [if_pos hf]
        rw [hpl]
        have HPL := Lib.hid hpl
        clear hpl
        generalize m.find i st ps = fi at *
        by_cases hg : m.free i < 0
        · rw [if_pos hg]
          unfold pptr at *
          have FR := fun W (hB : Below w.heap.size w W) => free_any p L m i W (H.out.below hB)
          unfold pptr at FR
          have FR := Lib.hid FR
          generalize m.free i = fr at *
          go_enter Tryz.func27, Tryz.ntmps27
          go_wp2_with (first
            | (go_at_call 39; refine DR.mono ?_; rintro e w' ⟨rfl, rfl⟩)
            | (go_at_call 56; refine US.mono ?_; rintro e w' ⟨rfl, rfl⟩)
            | (go_at_call 57; refine FI.mono ?_; rintro e w1 ⟨rfl, hB1⟩)
            | (go_at_call 58; refine (FR.out _ hB1).mono ?_; rintro e w2 ⟨rfl, hB2⟩))
          go_ret
          have hB3 : Below w.heap.size w w2 := hB1.trans (hB2.mono hB1.size)
          exact ⟨L, rfl, H.out.below hB3, PStep.of_below hB3⟩
        · rw [if_neg hg]
          have HPC2 := Lib.hid (HPC.out (by rw [HPL.out]; exact hg))
          rw [HPL.out] at HPC2
          unfold pptr at *
          have FR := fun W (hB : Below w.heap.size w W) => free_any p L m i W (H.out.below hB)
          unfold pptr at FR
          have FR := Lib.hid FR
          clear HPC HPL
          generalize m.free i = fr at *
          obtain ⟨R, hR⟩ : ∃ R, m.writeAt i fr (frameL st ps bs) = R := ⟨_, rfl⟩
          rw [hR]
          have HRR := Lib.hid hR
          clear hR
          go_enter Tryz.func27, Tryz.ntmps27
          go_wp2_with (first
            | (go_at_call 39; refine DR.mono ?_; rintro e w' ⟨rfl, rfl⟩)
            | (go_at_call 56; refine US.mono ?_; rintro e w' ⟨rfl, rfl⟩)
            | (go_at_call 57; refine FI.mono ?_; rintro e w1 ⟨rfl, hB1⟩)
            | (go_at_call 58; refine (FR.out _ hB1).mono ?_; rintro e w2 ⟨rfl, hB2⟩))
          have hB3 : Below w.heap.size w w2 := hB1.trans (hB2.mono hB1.size)
          go_wp2_with fail
          refine (frame_any st ps _ bs _ hs0 (by omega) hp0 hp1 (HV.out.below hB3)).mono ?_
          rintro e w4 ⟨v4, rfl, hv4, hB4⟩
          have hB5 : Below w.heap.size w w4 := hB3.trans (hB4.mono hB3.size)
          have PW := pwrite_any p L m i x d _ v4 (frameL st ps bs) w4 (H.out.below hB5) Q3.out Q4.out HPC2.out hv4 (by rw [frameL_length, List.length_take]; omega) HR.out
          unfold pptr at PW
          rw [HRR.out] at PW
          go_wp2_with fail
          refine PW.mono ?_
          rintro e w5 ⟨L', rfl, h5, s5⟩
          go_wp2
          go_ret
          exact ⟨L', rfl, h5, (PStep.of_below hB5).trans s5⟩
      · have hpl : m.place i st ps = m.find i st ps := by unfold PoolM.place; rw [if_neg hf]
        rw [hpl]
        rw [if_neg hf]
        have HPC2 := Lib.hid (HPC.out (by rw [hpl]; exact hf))
        rw [hpl] at HPC2
        unfold pptr at *
        clear HPC hpl
        generalize m.find i st ps = fi at *
        obtain ⟨R, hR⟩ : ∃ R, m.writeAt i fi (frameL st ps bs) = R := ⟨_, rfl⟩
        rw [hR]
        have HRR := Lib.hid hR
        clear hR
        · go_enter Tryz.func27, Tryz.ntmps27
          go_wp2_with (first
            | (go_at_call 39; refine DR.mono ?_; rintro e w' ⟨rfl, rfl⟩)
            | (go_at_call 56; refine US.mono ?_; rintro e w' ⟨rfl, rfl⟩)
            | (go_at_call 57; refine FI.mono ?_; rintro e w1 ⟨rfl, hB1⟩))
          have hB3 : Below w.heap.size w w1 := hB1
          go_wp2_with fail
          refine (frame_any st ps _ bs _ hs0 (by omega) hp0 hp1 (HV.out.below hB3)).mono ?_
          rintro e w4 ⟨v4, rfl, hv4, hB4⟩
          have hB5 : Below w.heap.size w w4 := hB3.trans (hB4.mono hB3.size)
          have PW := pwrite_any p L m i x d _ v4 (frameL st ps bs) w4 (H.out.below hB5) Q3.out Q4.out HPC2.out hv4 (by rw [frameL_length, List.length_take]; omega) HR.out
          unfold pptr at PW
          rw [HRR.out] at PW
          go_wp2_with fail
          refine PW.mono ?_
          rintro e w5 ⟨L', rfl, h5, s5⟩
          go_wp2
          go_ret
          exact ⟨L', rfl, h5, (PStep.of_below hB5).trans s5⟩
    · simp only [if_true] at US ⊢
      clear h hv hu hm e1 e2 q2 q3 q4 hd hr hl hlost FI
      unfold pptr at *
      go_enter Tryz.func27, Tryz.ntmps27
      go_wp2_with (first
        | (go_at_call 39; refine DR.mono ?_; rintro e w' ⟨rfl, rfl⟩)
        | (go_at_call 56; refine US.mono ?_; rintro e w' ⟨rfl, rfl⟩))
      go_ret
      exact ⟨L, rfl, H.out, PStep.of_below (Below.refl _ _)⟩

theorem usable_cases {w : World} {p : Nat} {L : Lay} {m : PoolM} (h : IsPool w p L m) (n : Int) : (m.usable n ≠ 0 ∧ (m.usable n = 1 ∨ m.usable n = 8)) ∨ (m.usable n = 0 ∧ ∃ (i : Nat) (x : Nat × Value × Value) (d : DriveM), n = (i : Nat) ∧ i < m.list.length ∧ L.ds[i]? = some x ∧ m.list[i]? = some d ∧ m.drive? n = some d ∧ L.at_ n = dptr x.1 ∧ IsDrive w x.1 x.2.1 x.2.2 d ∧ d.lost = false) := by
  unfold PoolM.usable
  rcases h.at_cases n with ⟨e1, e2⟩ | ⟨i, x, d, q1, q2, q3, q4, e1, e2, hd⟩
  · rw [e1]; exact .inl ⟨by decide, .inl rfl⟩
  · rw [e1]
    cases hl : d.lost
    · exact .inr ⟨by simp [hl], i, x, d, q1, q2, q3, q4, rfl, e2, hd, hl⟩
    · exact .inl ⟨by simp [hl], .inr (by simp [hl])⟩
theorem find_cap {m : PoolM} {n st ps : Int} (h : ¬ m.find n st ps < 0) : ∃ k : Nat, m.find n st ps = k ∧ k < m.capN n ∧ isAt st ps (m.slot n k) = true := by
  unfold PoolM.find at h ⊢
  rcases firstI_cases (m.capN n) (fun i => isAt st ps (m.slot n i)) with ⟨h1, _⟩ | ⟨k, h1, h2, h3, _⟩
  · rw [h1] at h; omega
  · exact ⟨k, h2, h1, h3⟩

def PoolM.load (m : PoolM) (n st ps : Int) : Int × List Int := if m.usable n ≠ 0 then (m.usable n, []) else if m.find n st ps < 0 then (7, []) else (0, openB (m.slot n (m.find n st ps).toNat))
set_option maxRecDepth 100000 in
set_option maxHeartbeats 1000000 in
theorem pload_any (p : Nat) (L : Lay) (m : PoolM) (n st ps : Int) (w : World) (h : IsPool w p L m) :
    Calls Tryz.prog 30 #[pptr p, .int .i64 n, .int .i64 st, .int .i64 ps] w fun e w' => ∃ v, e = .returned (.tuple #[v, .int .i64 (m.load n st ps).1]) ∧ HB w' v (m.load n st ps).2 ∧ Below w.heap.size w w' := by
  have US := usable_any p L m n w h
  have FI := find_any p L m n st ps w h
  unfold PoolM.load
  rcases usable_cases h n with ⟨hu, hu2⟩ | ⟨hu, i, x, d, q1, q2, q3, q4, e1, e2, hd, hl⟩
  · rw [if_pos hu]
    have hb : (m.usable n != 0) = true := by rw [bne_iff_ne]; exact hu
    generalize m.usable n = u at *
    unfold pptr at *
    clear hu h FI hu2
    go_enter Tryz.func30, Tryz.ntmps30
    go_wp2_with (go_at_call 56; refine US.mono ?_; rintro e w' ⟨rfl, rfl⟩)
    go_ret2
    exact ⟨_, rfl, HB.nil _, Below.refl _ _⟩
  · rw [if_neg (by simpa using hu)]
    rw [hu] at US
    have H := Lib.hid h
    have DR := fun W (hB : Below w.heap.size w W) => pdrive_any p L m n W (h.below hB)
    have RD := fun W k (hB : Below w.heap.size w W) hk => read_at (h.below hB) n k hk
    by_cases hf : m.find n st ps < 0
    · rw [if_pos hf]
      generalize m.find n st ps = f at *
      unfold pptr at *
      clear h hu q1 q2 q3 q4 e1 e2 hd hl DR RD
      go_enter Tryz.func30, Tryz.ntmps30
      go_wp2_with (first
        | (go_at_call 56; refine US.mono ?_; rintro e w' ⟨rfl, rfl⟩)
        | (go_at_call 57; refine FI.mono ?_; rintro e w1 ⟨rfl, hB1⟩))
      go_ret2
      exact ⟨_, rfl, HB.nil _, hB1⟩
    · rw [if_neg hf]
      obtain ⟨k, hk, hkc, _⟩ := find_cap hf
      rw [hk] at FI ⊢
      rw [Int.toNat_natCast]
      have DR := Lib.hid DR
      have RD := fun W hB => RD W k hB hkc
      have RD := Lib.hid RD
      rw [e2] at DR RD
      clear h hu q1 q2 q3 q4 e1 e2 hd hl hf hk hkc
      generalize x.1 = b at *
      unfold pptr dptr at *
      go_enter Tryz.func30, Tryz.ntmps30
      go_wp2_with (first
        | (go_at_call 56; refine US.mono ?_; rintro e w' ⟨rfl, rfl⟩)
        | (go_at_call 57; refine FI.mono ?_; rintro e w1 ⟨rfl, hB1⟩)
        | (go_at_call 39; refine (DR.out _ hB1).mono ?_; rintro e w' ⟨rfl, rfl⟩)
        | (go_at_call 63; refine (RD.out _ hB1).mono ?_; rintro e w3 ⟨v3, rfl, hv3, hB3⟩)
        | (go_at_call 64; refine (open_any _ _ _ hv3).mono ?_; rintro e w4 ⟨v4, rfl, hv4, hB4⟩))
      go_ret2
      exact ⟨_, rfl, hv4, (hB1.trans (hB3.mono hB1.size)).trans (hB4.mono (Nat.le_trans hB1.size hB3.size))⟩

def PoolM.erase (m : PoolM) (n st ps : Int) : Int × PoolM := if m.usable n ≠ 0 then (m.usable n, m) else if m.find n st ps < 0 then (7, m) else m.writeAt n.toNat (m.find n st ps) []
set_option maxRecDepth 100000 in
set_option maxHeartbeats 1000000 in
theorem perase_any (p : Nat) (L : Lay) (m : PoolM) (n st ps : Int) (w : World) (h : IsPool w p L m) (hr : m.room) :
    Calls Tryz.prog 28 #[pptr p, .int .i64 n, .int .i64 st, .int .i64 ps] w fun e w' => ∃ L', e = .returned (.int .i64 (m.erase n st ps).1) ∧ IsPool w' p L' (m.erase n st ps).2 ∧ PStep p w w' L L' := by
  have US := usable_any p L m n w h
  have FI := find_any p L m n st ps w h
  have H := Lib.hid h
  unfold PoolM.erase
  rcases usable_cases h n with ⟨hu, hu2⟩ | ⟨hu, i, x, d, q1, q2, q3, q4, e1, e2, hd, hl⟩
  · rw [if_pos hu]
    have hb : (m.usable n != 0) = true := by rw [bne_iff_ne]; exact hu
    generalize m.usable n = u at *
    unfold pptr at *
    clear hu h FI hu2 hr
    go_enter Tryz.func28, Tryz.ntmps28
    go_wp2_with (go_at_call 56; refine US.mono ?_; rintro e w' ⟨rfl, rfl⟩)
    go_ret
    exact ⟨L, rfl, H.out, PStep.of_below (Below.refl _ _)⟩
  · rw [if_neg (by simpa using hu)]
    rw [hu] at US
    by_cases hf : m.find n st ps < 0
    · rw [if_pos hf]
      generalize m.find n st ps = f at *
      unfold pptr at *
      clear h hu q1 q2 q3 q4 e1 e2 hd hl hr
      go_enter Tryz.func28, Tryz.ntmps28
      go_wp2_with (first
        | (go_at_call 56; refine US.mono ?_; rintro e w' ⟨rfl, rfl⟩)
        | (go_at_call 57; refine FI.mono ?_; rintro e w1 ⟨rfl, hB1⟩))
      go_ret
      exact ⟨L, rfl, H.out.below hB1, PStep.of_below hB1⟩
    · rw [if_neg hf]
      have hpc : d.check (m.find n st ps) = 0 := by
        obtain ⟨k, hk, hkc, _⟩ := find_cap hf
        rw [hk]
        unfold PoolM.capN at hkc
        rw [e1] at hkc
        simp [DriveM.capI, hl] at hkc
        unfold DriveM.check
        rw [hl]; simp; omega
      have HR := Lib.hid (hr d (List.mem_of_getElem? q4))
      subst q1
      rw [Int.toNat_natCast]
      generalize m.find i st ps = f at *
      obtain ⟨R, hR⟩ : ∃ R, m.writeAt i f [] = R := ⟨_, rfl⟩
      rw [hR]
      have HRR := Lib.hid hR
      have HPC := Lib.hid hpc
      have Q3 := Lib.hid q3
      have Q4 := Lib.hid q4
      unfold pptr at *
      clear h hu q2 q3 q4 e1 e2 hd hl hr hR hpc
      go_enter Tryz.func28, Tryz.ntmps28
      go_wp2_with (first
        | (go_at_call 56; refine US.mono ?_; rintro e w' ⟨rfl, rfl⟩)
        | (go_at_call 57; refine FI.mono ?_; rintro e w1 ⟨rfl, hB1⟩))
      have PW := pwrite_any p L m i x d f (.slice none 0 0) [] w1 (H.out.below hB1) Q3.out Q4.out HPC.out (HB.nil _) (by simp) HR.out
      rw [HRR.out] at PW
      unfold pptr at PW
      go_wp2_with fail
      refine PW.mono ?_
      rintro e w5 ⟨L', rfl, h5, s5⟩
      go_wp2
      go_ret
      exact ⟨L', rfl, h5, (PStep.of_below hB1).trans s5⟩

def DriveM.flushed (d : DriveM) : DriveM := { d with lasts := flushL d.lasts d.loose, loose := [] }
def PoolM.setD (m : PoolM) (i : Nat) (d : DriveM) : PoolM := { m with list := m.list.set i d }
def PoolM.flush (m : PoolM) (n : Int) : Int × PoolM := if m.usable n ≠ 0 then (m.usable n, m) else if m.burn.1 then (0, m.burn.2.setD n.toNat (m.list[n.toNat]?.getD .gone).flushed) else (9, m.burn.2)
set_option maxRecDepth 100000 in
set_option maxHeartbeats 1000000 in
theorem pflush_any (p : Nat) (L : Lay) (m : PoolM) (n : Int) (w : World) (h : IsPool w p L m) :
    Calls Tryz.prog 54 #[pptr p, .int .i64 n] w fun e w' => ∃ L', e = .returned (.int .i64 (m.flush n).1) ∧ IsPool w' p L' (m.flush n).2 ∧ PStep p w w' L L' := by
  have US := usable_any p L m n w h
  have BU := burn_any p L m w h
  have hbl := burn_list m
  have H := Lib.hid h
  unfold PoolM.flush
  rcases usable_cases h n with ⟨hu, hu2⟩ | ⟨hu, i, x, d, q1, q2, q3, q4, e1, e2, hd, hl⟩
  · rw [if_pos hu]
    have hb : (m.usable n != 0) = true := by rw [bne_iff_ne]; exact hu
    generalize m.usable n = u at *
    unfold pptr at *
    clear hu h hu2 BU hbl
    go_enter Tryz.func54, Tryz.ntmps54
    go_wp2_with (go_at_call 56; refine US.mono ?_; rintro e w' ⟨rfl, rfl⟩)
    go_ret
    exact ⟨L, rfl, H.out, PStep.of_below (Below.refl _ _)⟩
  · rw [if_neg (by simpa using hu)]
    rw [hu] at US
    subst q1
    rw [Int.toNat_natCast, q4]
    simp only [Option.getD_some]
    generalize m.burn = mb at *
    obtain ⟨ok, m1⟩ := mb
    simp only at BU hbl ⊢
    have HBL := Lib.hid hbl
    have HX := Lib.hid q3
    have HD := Lib.hid q4
    have HL := Lib.hid hl
    clear h hbl hu q2 q3 q4 e1 e2 hd hl
    cases ok
    · simp only [Bool.false_eq_true, if_false]
      unfold pptr at *
      go_enter Tryz.func54, Tryz.ntmps54
      go_wp2_with (first
        | (go_at_call 56; refine US.mono ?_; rintro e w' ⟨rfl, rfl⟩)
        | (go_at_call 96; refine BU.mono ?_; rintro e w1 ⟨rfl, h1, h2, _⟩))
      go_ret
      exact ⟨L, rfl, h1, h2⟩
    · simp only [if_true]
      unfold pptr at *
      go_enter Tryz.func54, Tryz.ntmps54
      go_wp2_with fail
      refine US.mono ?_
      rintro e w' ⟨rfl, rfl⟩
      go_wp2_with fail
      refine BU.mono ?_
      rintro e w1 ⟨rfl, h1, h2, _⟩
      obtain ⟨g, c, c1, c2, c3, c4, c5⟩ := h1.cells HX.out
      have hd1 : m1.list[i]? = some d := by rw [HBL.out]; exact HD.out
      have hdr := h1.drives i x d HX.out hd1
      have FL := dflush_any x.1 x.2.1 x.2.2 d w1 hdr HL.out
      unfold dptr at FL
      have H1 := Lib.hid h1
      have H2 := Lib.hid h2
      have HD1 := Lib.hid hd1
      generalize m1.list.length = q at *
      clear h1 h2 hd1 hdr
      generalize hxb : x.1 = b at *
      go_wp2_with fail
      refine FL.mono ?_
      rintro e w2 ⟨rfl, hd2, hch2⟩
      go_wp2
      go_ret
      have SD := H1.out.set_drive (y := (x.1, x.2.1, .slice none 0 0)) (d' := d.flushed) HX.out (List.getElem?_eq_some_iff.1 HD1.out).1 (hch2.mono ?_) (by rw [hxb]; exact hd2) rfl ?_
      · exact ⟨_, rfl, SD.1, H2.out.trans SD.2⟩
      · rintro k _ (rfl | hk)
        · exact .inl hxb.symm
        · exact .inr (.inl hk)
      · rintro k (rfl | hk | hk)
        · exact .inl (.inl rfl)
        · exact .inl (.inr (.inl hk))
        · simp [Value.ownBlock] at hk

/-- What lasts of a slot of a drive. -/
def PoolM.lastSlot (m : PoolM) (n : Int) (i : Nat) : List Int := match m.drive? n with | some d => d.lastAt i | none => []
def PoolM.lastsB (m : PoolM) (n st ps : Int) : Bool := decide (0 ≤ firstI (m.capN n) fun i => isAt st ps (m.lastSlot n i))
theorem last_at {w : World} {p : Nat} {L : Lay} {m : PoolM} (h : IsPool w p L m) (n : Int) (k : Nat) (hk : k < m.capN n) :
    Calls Tryz.prog 67 #[L.at_ n, .int .i64 k] w fun e w' => ∃ v', e = .returned (.tuple #[v', .int .i64 0]) ∧ HB w' v' (m.lastSlot n k) ∧ Below w.heap.size w w' := by
  rcases h.at_cases n with ⟨e1, e2⟩ | ⟨i, x, d, _, _, _, _, e1, e2, hd⟩
  · unfold PoolM.capN at hk
    rw [e1] at hk; simp at hk
  · have hc : d.check k = 0 := by
      unfold PoolM.capN at hk
      rw [e1] at hk
      simp only [DriveM.capI] at hk
      unfold DriveM.check
      cases hl : d.lost <;> simp [hl] at hk ⊢
      omega
    have := lasts_any x.1 x.2.1 x.2.2 d k w hd
    rw [hc] at this
    unfold PoolM.lastSlot
    rw [e1, e2]
    exact this
set_option maxRecDepth 100000 in
set_option maxHeartbeats 1000000 in
theorem plasts_any (p : Nat) (L : Lay) (m : PoolM) (n st ps : Int) (w : World) (hP : IsPool w p L m) :
    Calls Tryz.prog 34 #[pptr p, .int .i64 n, .int .i64 st, .int .i64 ps] w fun e w' => e = .returned (.bool (m.lastsB n st ps)) ∧ Below w.heap.size w w' := by
  have DR := pdrive_any p L m n w hP
  have CP := cap_at hP n
  have hle := cap_le hP n
  obtain ⟨f, hf⟩ : ∃ f : Nat → Bool, f = fun i => isAt st ps (m.lastSlot n i) := ⟨_, rfl⟩
  have RD : ∀ k W, k < m.capN n → Below w.heap.size w W → Calls Tryz.prog 67 #[L.at_ n, .int .i64 k] W fun e w' => ∃ v', e = .returned (.tuple #[v', .int .i64 0]) ∧ HB w' v' (m.lastSlot n k) ∧ Below W.heap.size W w' :=
    fun k W hk hj => last_at (hP.below hj) n k hk
  have HFl := Lib.hid hf
  unfold PoolM.lastsB
  rw [← hf]
  have RD := Lib.hid RD
  generalize L.at_ n = dv at *
  obtain ⟨N, hN⟩ : ∃ N, m.capN n = N := ⟨_, rfl⟩
  rw [hN] at CP hle ⊢
  have HN := Lib.hid hN
  clear hP hf hN
  unfold pptr at *
  go_enter Tryz.func34, Tryz.ntmps34
  go_wp2_with fail
  refine DR.mono ?_
  rintro e w' ⟨rfl, rfl⟩
  go_wp2_with fail
  refine CP.mono ?_
  rintro e w' ⟨rfl, rfl⟩
  go_wp2_with fail
  go_loopw [22] (fun i wr => ∃ k : Nat, k ≤ N ∧ i = .int .i64 k ∧ Below w.heap.size w wr ∧ ∀ j, j < k → f j = false) (fun i _ => N - (intOf i).toNat)
  case atStart => exact ⟨0, by omega, rfl, Below.refl _ _, fun j hj => by omega⟩
  case round =>
    obtain ⟨k, hk, rfl, hj, hn⟩ := hrel
    have HNO := Lib.hid hn
    have HJ := Lib.hid hj
    clear hn
    by_cases hlt : k < N
    · go_wp2_with fail
      refine (RD.out k _ (by rw [HN.out]; exact hlt) hj).mono ?_
      rintro e w1 ⟨v1, rfl, hv1, hB1⟩
      have hj1 := hj.trans (hB1.mono hj.size)
      go_wp2_with fail
      refine (open_any _ _ _ hv1).mono ?_
      rintro e w2 ⟨v2, rfl, hv2, hB2⟩
      have hj2 := hj1.trans (hB2.mono hj1.size)
      have HJ2 := Lib.hid hj2
      have hfk : f k = (openOk (m.lastSlot n k) && (decide (openS (m.lastSlot n k) = st) && decide (openP (m.lastSlot n k) = ps))) := by rw [HFl.out]; rfl
      have HFK := Lib.hid hfk
      clear hj hj1 hj2 hB1 hB2 hv1 hv2 hfk
      generalize openS (m.lastSlot n k) = q1 at *
      generalize openP (m.lastSlot n k) = q2 at *
      generalize openOk (m.lastSlot n k) = q3 at *
      have no : f k = false → ∀ j, j < k + 1 → f j = false := fun e j hj => by
        rcases Nat.lt_or_ge j k with h | h
        · exact HNO.out j h
        · rw [show j = k from by omega]; exact e
      have NO := Lib.hid no
      clear no
      cases q3
      · go_wp2
        go_roundw
        case rel => exact ⟨k + 1, by omega, by go_num, HJ2.out, NO.out (by rw [HFK.out]; rfl)⟩
        case measure => simp [intOf]; omega
      · by_cases h1 : q1 = st
        · subst h1
          by_cases h2 : q2 = ps
          · subst h2
            have hfi := firstI_hit hlt (by rw [HFK.out]; simp) HNO.out
            have HFI := Lib.hid hfi
            clear hfi
            go_wp2
            go_ret
            exact ⟨by rw [HFI.out]; simp, HJ2.out⟩
          · have h2' : (q2 == ps) = false := by simpa using h2
            have H2 := Lib.hid h2
            clear h2
            go_wp2
            go_roundw
            case rel => exact ⟨k + 1, by omega, by go_num, HJ2.out, NO.out (by rw [HFK.out]; simp [H2.out])⟩
            case measure => simp [intOf]; omega
        · have h1' : (q1 == st) = false := by simpa using h1
          have H1 := Lib.hid h1
          clear h1
          go_wp2
          go_roundw
          case rel => exact ⟨k + 1, by omega, by go_num, HJ2.out, NO.out (by rw [HFK.out]; simp [H1.out])⟩
          case measure => simp [intOf]; omega
    · have hk' : k = N := by omega
      subst hk'
      have hfi := firstI_none HNO.out
      have HFI := Lib.hid hfi
      clear hfi
      go_wp2
      go_ret
      exact ⟨by rw [HFI.out]; rfl, hj⟩

theorem Tryz.EH : Elem Tryz.prog 55 80 2 16 := Elem.of Tryz.underlying55 (z := .agg #[.int .i64 0, .int .i64 0]) (by kernel_rfl) rfl (by omega)
set_option maxHeartbeats 400000 in
theorem pnew_any (w : World) : Calls Tryz.prog 18 #[] w fun e w' => e = .returned (pptr w.heap.size) ∧ IsPool w' w.heap.size ⟨.slice none 0 0, []⟩ ⟨[], -1, false⟩ ∧ Below w.heap.size w w' := by
  go_enter Tryz.func18, Tryz.ntmps18
  go_wp2
  go_ret
  refine ⟨rfl, ⟨heap_alloc_new w _, World.ownsRow_nil _ _ _ _, rfl, by simp, by simp, by simp, by simp⟩, (Below.refl _ _).alloc (Nat.le_refl _) _⟩
set_option maxHeartbeats 400000 in
theorem plen_any (p : Nat) (L : Lay) (m : PoolM) (w : World) (h : IsPool w p L m) : Calls Tryz.prog 76 #[pptr p] w fun e w' => e = .returned (.int .i64 m.list.length) ∧ w = w' := by
  obtain ⟨A, c, hpv, hlc⟩ := own_shape h.row
  have c0 : w.cell? ⟨p, 0, none⟩ = some (.slice A m.list.length c) := by rw [cell_of_blk h.blk, hpv]; rfl
  unfold pptr
  generalize m.list.length = n at *
  clear h hpv
  go_enter Tryz.func76, Tryz.ntmps76
  go_wp2
  go_ret
  exact ⟨rfl, rfl⟩

def newD (s : Int) : DriveM := ⟨List.replicate (min (max s 0) 128).toNat [], [], false⟩
theorem add_close {w w1 w2 : World} {p b : Nat} {L : Lay} {m : PoolM} {lv v2 : Value} {d : DriveM} (h : IsPool w p L m) (hlen : m.list.length < 12) (hB2 : Below w.heap.size w w1)
    (hd : IsDrive w1 b lv (.slice none 0 0) d) (hb : w.heap.size ≤ b) (hlv : ∀ k, lv.ownBlock = some k → w.heap.size ≤ k ∧ k ≠ b) {o : Obj}
    (ho2 : w2.ownsRow 0 76 1 v2 (m.list.length + 1) (L.ds.map (fun x => dptr x.1) ++ [dptr b])) (hg2 : Grow (w1.alloc o) w2 L.pv v2) :
    IsPool (w2.setCell ⟨p, 0, none⟩ v2) p ⟨v2, L.ds ++ [(b, lv, .slice none 0 0)]⟩ { m with list := m.list ++ [d] } ∧ PStep p w (w2.setCell ⟨p, 0, none⟩ v2) L ⟨v2, L.ds ++ [(b, lv, .slice none 0 0)]⟩ := by
  have hB3 : Below w.heap.size w (w1.alloc o) := hB2.alloc hB2.size o
  have hch : Chg (fun k => L.pv.ownBlock = some k) w w2 := (Chg.of_below hB3).trans hg2.chg (fun _ _ x => x)
  have hrow := own_below h.row hB3
  have hnp : ∀ k, L.pv.ownBlock = some k → k ≠ p := by
    rintro k hk rfl
    obtain ⟨cur, e⟩ := own_ty h.row k hk
    rw [h.blk] at e; cases e
  have hbp : w2.heap[p]? = some (.cells #[L.pv, .int .i64 m.fuse, .bool m.down] 97 (0, 0)) := hch.blk h.blk fun e => hnp _ e rfl
  have hch2 : Chg (fun k => k = p ∨ L.pv.ownBlock = some k) w (w2.setCell ⟨p, 0, none⟩ v2) := (hch.mono fun _ _ x => .inr x).then_setCell (a := ⟨p, 0, none⟩) (.inl (.inl rfl)) _
  have hty : ∀ (k : Nat) (cur : Array Value) (fr : Nat × Nat) (e : TypeId), e ≠ 97 → e ≠ 76 → (k = p ∨ L.pv.ownBlock = some k) → w.heap[k]? ≠ some (.cells cur e fr) := by
    rintro k cur fr e e1 e2 (rfl | hk) he
    · rw [h.blk] at he; cases he; exact e1 rfl
    · obtain ⟨cur', e'⟩ := own_ty h.row k hk
      rw [e'] at he; cases he; exact e2 rfl
  have hold : ∀ (i : Nat) (x : Nat × Value × Value) (d : DriveM), L.ds[i]? = some x → m.list[i]? = some d → ∀ k, DFp x.1 x.2.1 x.2.2 k → ¬ (k = p ∨ L.pv.ownBlock = some k) := by
    intro i x d hx hd k hk ho
    obtain ⟨cur, e, h1, h2⟩ := DFp_ty (h.drives i x d hx hd) hk
    exact hty k cur _ e (by rcases h2 with rfl | rfl | rfl <;> decide) (by rcases h2 with rfl | rfl | rfl <;> decide) ho h1
  have hplt : p < w.heap.size := blk_lt h.blk
  have hnew : ∀ k, DFp b lv (.slice none 0 0) k → w.heap.size ≤ k := by
    rintro k (rfl | hk | hk)
    · exact hb
    · exact (hlv k hk).1
    · simp [Value.ownBlock] at hk
  have hdn : IsDrive (w2.setCell ⟨p, 0, none⟩ v2) b lv (.slice none 0 0) d := by
    have hc3 : Chg (fun k => k = p ∨ L.pv.ownBlock = some k) (w1.alloc o) (w2.setCell ⟨p, 0, none⟩ v2) := (hg2.chg.mono fun _ _ x => .inr x).then_setCell (a := ⟨p, 0, none⟩) (.inl (.inl rfl)) _
    have hlt : ∀ k, (k = p ∨ L.pv.ownBlock = some k) → k < w.heap.size := by
      rintro k (rfl | hk)
      · exact hplt
      · exact own_lt h.row k hk
    refine (hd.below ((Below.refl _ w1).alloc (Nat.le_refl _) o)).keep hc3 (fun e => ?_) (fun k hk e => ?_) (fun k hk e => ?_) ?_
    · have := hlt b e; omega
    · have := hlt k e; have := (hlv k hk).1; omega
    · simp [Value.ownBlock] at hk
    · intro k cur fr hk e
      have hklt := hlt k hk
      have e' : w.heap[k]? = some (.cells cur 5 fr) := by rw [← hB3.block k hklt]; exact e
      exact hty k cur fr 5 (by decide) (by decide) hk e'
  have hv2p : ∀ k, v2.ownBlock = some k → k ≠ p := by
    rintro k hk rfl
    obtain ⟨cur, e⟩ := own_ty ho2 k hk
    rw [hbp] at e; cases e
  refine ⟨⟨blk_setCell hbp 0 _, ?_, by simp [h.len], by simp; omega, ?_, ?_, h.fuseR⟩, ?_, ?_⟩
  · have e : (L.ds ++ [(b, lv, Value.slice none 0 0)]).map (fun x => dptr x.1) = L.ds.map (fun x => dptr x.1) ++ [dptr b] := by simp
    simp only [e, List.length_append, List.length_singleton]
    exact own_chg ho2 ((Chg.refl (fun k => k = p) w2).then_setCell (a := ⟨p, 0, none⟩) (.inl rfl) _) fun k hk e => hv2p k hk e
  · intro i x d' hx hd'
    simp only at hx hd'
    rcases Nat.lt_or_ge i L.ds.length with hlt | hge
    · rw [List.getElem?_append_left hlt] at hx
      rw [List.getElem?_append_left (by rw [← h.len]; exact hlt)] at hd'
      have ho := hold i x d' hx hd'
      exact (h.drives i x d' hx hd').keep hch2 (ho _ (.inl rfl)) (fun k hk => ho k (.inr (.inl hk))) (fun k hk => ho k (.inr (.inr hk))) (fun k cur fr hk => hty k cur fr _ (by decide) (by decide) hk)
    · rw [List.getElem?_append_right hge] at hx
      rw [List.getElem?_append_right (by rw [← h.len]; exact hge)] at hd'
      have hi0 : i - L.ds.length = 0 := by
        have := (List.getElem?_eq_some_iff.1 hx).1
        simp at this; omega
      have hi1 : i - m.list.length = 0 := by rw [← h.len]; exact hi0
      rw [hi0] at hx; rw [hi1] at hd'
      cases hx; cases hd'
      exact hdn
  · intro i j x y hx hy hne k hk hk2
    simp only at hx hy
    have oldlt : ∀ {i : Nat} {x : Nat × Value × Value}, L.ds[i]? = some x → ∀ k, DFp x.1 x.2.1 x.2.2 k → k < w.heap.size := fun hx k hk => PFp_lt h k (PFp_drive hx hk)
    rcases Nat.lt_or_ge i L.ds.length with hlt | hge
    · rw [List.getElem?_append_left hlt] at hx
      rcases Nat.lt_or_ge j L.ds.length with hlt2 | hge2
      · rw [List.getElem?_append_left hlt2] at hy
        exact h.apart i j x y hx hy hne k hk hk2
      · rw [List.getElem?_append_right hge2] at hy
        have hj0 : j - L.ds.length = 0 := by
          have := (List.getElem?_eq_some_iff.1 hy).1
          simp at this; omega
        rw [hj0] at hy; cases hy
        have := oldlt hx k hk; have := hnew k hk2; omega
    · rw [List.getElem?_append_right hge] at hx
      have hi0 : i - L.ds.length = 0 := by
        have := (List.getElem?_eq_some_iff.1 hx).1
        simp at this; omega
      rw [hi0] at hx; cases hx
      rcases Nat.lt_or_ge j L.ds.length with hlt2 | hge2
      · rw [List.getElem?_append_left hlt2] at hy
        have := oldlt hy k hk2; have := hnew k hk; omega
      · have : j - L.ds.length = 0 := by
          have := (List.getElem?_eq_some_iff.1 hy).1
          simp at this; omega
        omega
  · exact hch2.mono fun k _ hk => by rcases hk with rfl | hk; exact .inl rfl; exact .inr (.inl hk)
  · rintro k (rfl | hk | ⟨x, hx, hk⟩)
    · exact .inl (.inl rfl)
    · rcases hg2.at_ with e | e
      · exact .inl (.inr (.inl (e ▸ hk)))
      · exact .inr (Nat.le_trans hB3.size (e k hk))
    · simp only [List.mem_append, List.mem_singleton] at hx
      rcases hx with hx | rfl
      · exact .inl (.inr (.inr ⟨x, hx, hk⟩))
      · exact .inr (hnew k hk)

def PoolM.add (m : PoolM) (s : Int) : Int × Int × PoolM := if 12 ≤ m.list.length then (0, 3, m) else (m.list.length, 0, { m with list := m.list ++ [newD s] })
set_option maxRecDepth 100000 in
set_option maxHeartbeats 1000000 in
theorem padd_any (p : Nat) (L : Lay) (m : PoolM) (s : Int) (w : World) (h : IsPool w p L m) :
    Calls Tryz.prog 19 #[pptr p, .int .i64 s] w fun e w' => ∃ L', e = .returned (.tuple #[.int .i64 (m.add s).1, .int .i64 (m.add s).2.1]) ∧ IsPool w' p L' (m.add s).2.2 ∧ PStep p w w' L L' := by
  obtain ⟨A, c, hpv, hlc⟩ := own_shape h.row
  have c0 : w.cell? ⟨p, 0, none⟩ = some L.pv := by rw [cell_of_blk h.blk]; rfl
  have c0' := c0
  rw [hpv] at c0'
  have f0 := frozen_of_blk h.blk 0
  have hplt := blk_lt h.blk
  have hfew := h.few
  obtain ⟨n, hn⟩ : ∃ n, m.list.length = n := ⟨_, rfl⟩
  unfold PoolM.add
  by_cases h12 : 12 ≤ m.list.length
  · rw [if_pos h12]
    rw [hn] at c0' hfew hlc h12
    have H := Lib.hid h
    unfold pptr
    clear h hpv c0 hn
    go_enter Tryz.func19, Tryz.ntmps19
    go_wp2
    go_ret2
    exact ⟨L, rfl, H.out, PStep.of_below (Below.refl _ _)⟩
  · rw [if_neg h12]
    simp only
    have H := Lib.hid h
    have HP := Lib.hid hpv
    have HN := Lib.hid hn
    have HL := Lib.hid (show m.list.length < 12 by omega)
    have hr := h.row
    have HRW := Lib.hid hr
    rw [hn]
    rw [hn] at c0' hfew hlc h12
    have hne : (Value.slice A n c).ownBlock ≠ some p := by
      intro e
      obtain ⟨cur, e'⟩ := own_ty h.row p (by rw [hpv, hn]; exact e)
      rw [h.blk] at e'; cases e'
    have HNE := Lib.hid hne
    have HO1 := fun W (hB : Below w.heap.size w W) => own_below hr hB
    rw [hpv, hn] at HO1
    have HO1 := Lib.hid HO1
    clear h hpv c0 hn hr hne
    unfold pptr
    go_enter Tryz.func19, Tryz.ntmps19
    go_wp2_with fail
    go_region_law (first
      | (go_simp; go_at_call 52; refine (newDrive_any s _).mono ?_; rintro e w1 ⟨b, lv, rfl, hd1, hb1, hlv1, hB1⟩; unfold dptr; have hB2 : Below w.heap.size w w1 := (below_drew' (Below.refl _ w)).trans hB1; have c2 : w1.cell? ⟨p, 0, none⟩ = some (.slice A n c) := (hB2.cell (p := ⟨p, 0, none⟩) hplt).trans c0'; have hlt1 : p < w1.heap.size := Nat.lt_of_lt_of_le hplt hB2.size)
      | (refine step_app (v := .slice A n c) Tryz.EP _ rfl (.tmp 20) (.tmp 23) rfl rfl ((HO1.out _ hB2).alloc _) rfl (Src.alloc w1 1 [_] _ 1 rfl) (by simp [Value.oneCell']) (by omega) (by unfold maxLen; omega) ?_; intro v2 w2 ho2 hg2 _; obtain ⟨A2, k2, rfl, _⟩ := own_shape ho2; have hbk := hg2.chg.blk (blk_alloc (below_blk hB2 H.out.blk) (.cells #[dptr b] 76)) (fun e => HNE.out e); have c3 : w2.cell? ⟨p, 0, none⟩ = some L.pv := (by rw [cell_of_blk hbk]; rfl); have f3 := frozen_of_blk hbk 0; have HG := Lib.hid hg2; have HO := Lib.hid ho2; clear hg2 ho2))
    all_goals go_wp2
    all_goals go_ret2
    all_goals
      have AC := add_close (d := newD s) H.out HL.out hB2 hd1 hb1 hlv1 (by rw [HN.out]; exact HO.out) (by rw [HP.out, HN.out]; exact HG.out)
      exact ⟨_, rfl, AC.1, AC.2⟩
end Go.Proofs.YtblddkjdglliaaaGreatDoor
