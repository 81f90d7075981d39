/- Contracts: slot.Frame, slot.Open. Conditions: numbers in range, the slices read as bytes. -/
import Derived.Test.YtblddkjdglliaaaGreatDoorHash
import Derived.Deep.QuietTactic
import Derived.BigQuiet
namespace Go.Proofs.YtblddkjdglliaaaGreatDoor
open Go.RowKit

/-- What Frame writes ahead of the sum. -/
def headL (s p : Int) (bs : List Int) : List Int := putL s 4 ++ [p, ((bs.take 50).length : Int)] ++ bs.take 50
def frameL (s p : Int) (bs : List Int) : List Int := headL s p bs ++ putL (crcOf (headL s p bs)) 4
theorem headL_range {s p : Int} {bs : List Int} (hp : 0 ≤ p) (hp2 : p ≤ 255) (h : ∀ x ∈ bs, 0 ≤ x ∧ x ≤ 255) : ∀ x ∈ headL s p bs, 0 ≤ x ∧ x ≤ 255 := by
  intro x hx
  simp only [headL, List.mem_append, List.mem_cons, List.not_mem_nil, or_false] at hx
  rcases hx with (hx | rfl | rfl) | hx
  · exact putL_range _ _ x hx
  · exact ⟨hp, hp2⟩
  · simp; omega
  · exact h x (List.mem_of_mem_take hx)
theorem frameL_range {s p : Int} {bs : List Int} (hp : 0 ≤ p) (hp2 : p ≤ 255) (h : ∀ x ∈ bs, 0 ≤ x ∧ x ≤ 255) : ∀ x ∈ frameL s p bs, 0 ≤ x ∧ x ≤ 255 := by
  intro x hx
  rcases List.mem_append.1 hx with hx | hx
  · exact headL_range hp hp2 h x hx
  · exact putL_range _ _ x hx
theorem headL_length (s p : Int) (bs : List Int) : (headL s p bs).length = 6 + (bs.take 50).length := by simp [headL, putL_length]; omega
theorem frameL_length (s p : Int) (bs : List Int) : (frameL s p bs).length = 10 + (bs.take 50).length := by simp only [frameL, List.length_append, headL_length, putL_length]; omega

set_option maxRecDepth 100000 in
set_option maxHeartbeats 400000 in
theorem frame_any (s p : Int) (v : Value) (bs : List Int) (w : World) (hs : 0 ≤ s) (hs2 : s ≤ 4294967295) (hp : 0 ≤ p) (hp2 : p ≤ 255) (h : HB w v bs) :
    Calls Tryz.prog 61 #[.int .i64 s, .int .i64 p, v] w fun e w' => ∃ v', e = .returned v' ∧ HB w' v' (frameL s p bs) ∧ Below w.heap.size w w' := by
  obtain ⟨A, c, rfl, hnc, hcm, _⟩ := id h
  have hr := h.range
  have hl := h.len
  obtain ⟨n, hn⟩ : ∃ n, bs.length = n := ⟨_, rfl⟩
  have hbt : HB w (.slice A (min n 50) c) (bs.take 50) := by
    have := h.sub (A' := A) 0 (min n 50) c (by omega) (by omega) (by omega) hcm (by intro _ b o e; simpa using e)
    have e : ((bs.drop 0).take (min n 50 - 0)) = bs.take 50 := by
      simp only [List.drop_zero, Nat.sub_zero]
      rcases Nat.le_total n 50 with h1 | h1
      · rw [Nat.min_eq_left h1, List.take_of_length_le (by omega), List.take_of_length_le (by omega)]
      · rw [Nat.min_eq_right h1]
    rw [e] at this
    simpa using this
  have htl : (bs.take 50).length = min n 50 := by rw [List.length_take, hn, Nat.min_comm]
  have HH := Lib.hid (headL_range (s := s) hp hp2 hr)
  have hhl := headL_length s p bs
  rw [htl] at hhl
  have hcr := crcOf_range (headL s p bs)
  have hhd : headL s p bs = ([] ++ putL s 4) ++ [p, ((bs.take 50).length : Int)] ++ bs.take 50 := rfl
  rw [htl] at hhd
  have HD := Lib.hid hhd
  have HL := Lib.hid hhl
  have HR := Lib.hid hr
  rw [hn] at h hnc ⊢
  have e50 : (min (n : Int) 50).toNat = min n 50 := by omega
  clear hn hhd hhl hr htl
  go_enter Tryz.func61, Tryz.ntmps61
  go_wp2_with fail
  refine (put_any _ 0 [] s 4 _ hs (by omega) (by omega) (World.ownsRow_nil _ _ _ _)).mono ?_
  rintro e w1 ⟨v1, rfl, ho1, hg1⟩
  have hB1 : Below w.heap.size w w1 := hg1.nil_below
  have hbt1 := hbt.below hB1
  go_wp2_with (first
    | (at_builtin; refine app_arm Tryz.E8 _ rfl (.tmp 15) (.tmp 21) rfl rfl (ho1.alloc _) rfl (Src.alloc w1 1 [_, _] _ _ rfl) (by simp [Value.oneCell']) (by omega) (by unfold maxLen; omega) ?_; intro v2 w2 ho2 hg2 _; have hg3 := hg1.trans hg2.from_alloc; have hbt2 := hbt.below hg3.nil_below)
    | (at_builtin; refine app_arm Tryz.E8 _ rfl (.tmp 23) (.tmp 24) rfl rfl ho2 rfl (Src.of_HB hbt2) (ints_one _ _) (by omega) (by unfold maxLen; omega) ?_; intro v4 w4 ho4 hg4 _; have ho5 : w4.ownsRow 0 5 1 v4 (6 + min n 50) (ints .u8 (headL s p bs)) := (by rw [HD.out, ints_append, ints_append]; simpa [ints] using ho4); have hb5 := HB.of_own ho5 HH.out (by rw [HL.out]; omega); have hg5 := hg3.trans hg4; clear ho4)
    | (go_at_call 102; refine (sum_any _ _ _ hb5).mono ?_; rintro e w' ⟨rfl, rfl⟩)
    | (go_at_call 101; refine (put_any _ _ _ _ 4 _ hcr.1 (by omega) (by omega) ho5).mono ?_; rintro e w6 ⟨v6, rfl, ho6, hg6⟩))
  go_ret
  refine ⟨_, rfl, HB.of_own ho6 (frameL_range hp hp2 HR.out) ?_, (hg5.trans hg6).nil_below⟩
  have := HL.out
  simp only [frameL, List.length_append, putL_length] at *
  omega

theorem quiet_same' {P : Program} {f : FuncId} {args : Array Value} {w : World} {n : Nat} {v : Value}
    (h : Calls P f args (w.drewN n) fun e w' => e = .returned v ∧ w.drewN n = w') : Calls P f args (w.drewN n) fun e w'' => e = .returned v ∧ ∃ m, w'' = w.drewN m :=
  h.mono fun _ _ h => ⟨h.1, n, h.2.symm⟩
theorem results_four {fn : Func} {t u v x : Tmp} (h : fn.results = #[.tmp t, .tmp u, .tmp v, .tmp x]) (tmps : Array Value) (P : Program) (w : World) :
    (results fn tmps).run P w = .ok (.tuple #[tmps.getD t undef, tmps.getD u undef, tmps.getD v undef, tmps.getD x undef]) w := by simp [results, h]

/-! Open: is it a frame, and of what? -/
def openOk (bs : List Int) : Bool := decide (10 ≤ bs.length) && decide (frameL (getN (bs.take 4)) (bs[4]?.getD 0) ((bs.drop 6).take (bs.length - 10)) = bs)
def openS (bs : List Int) : Int := if openOk bs then getN (bs.take 4) else 0
def openP (bs : List Int) : Int := if openOk bs then bs[4]?.getD 0 else 0
def openB (bs : List Int) : List Int := if openOk bs then (bs.drop 6).take (bs.length - 10) else []

set_option maxRecDepth 100000 in
set_option maxHeartbeats 400000 in
theorem open_any (v : Value) (bs : List Int) (w : World) (h : HB w v bs) :
    Calls Tryz.prog 64 #[v] w fun e w' => ∃ v', e = .returned (.tuple #[.int .i64 (openS bs), .int .i64 (openP bs), v', .bool (openOk bs)]) ∧ HB w' v' (openB bs) ∧ Below w.heap.size w w' := by
  obtain ⟨A, c, rfl, hnc, hcm, _⟩ := id h
  have hr := h.range
  have hl := h.len
  obtain ⟨n, hn⟩ : ∃ n, bs.length = n := ⟨_, rfl⟩
  by_cases h10 : n < 10
  · have hok : openOk bs = false := by simp [openOk]; omega
    rw [hn] at h hnc ⊢
    have HO := Lib.hid hok
    clear hn hok hr
    go_enter Tryz.func64, Tryz.ntmps64
    go_wp2
    refine bodyPost_ret (results_four rfl _ _ _) rfl ?_
    exact ⟨.slice none 0 0, by simp [openS, openP, HO.out], by simp [openB, HO.out]; exact HB.nil _, Below.refl _ _⟩
  · have h4 := h.at_ 4
    have h1 := h.sub (A' := A) 0 4 c (by omega) (by omega) (by omega) hcm (by intro _ b o e; simpa using e)
    have e1 : ((bs.drop 0).take (4 - 0)) = bs.take 4 := by simp
    rw [e1] at h1
    have hg := getN_nonneg (bs.take 4) h1.range
    have hgl : (256 : Int) ^ (bs.take 4).length = 4294967296 := by rw [List.length_take, hn, Nat.min_eq_left (by omega)]; rfl
    rw [hgl] at hg
    obtain ⟨hq, _, hc⟩ := h.cell
    obtain ⟨b, o, rfl, hcell⟩ := hc 4 (by omega)
    have h2 := h.sub (A' := some ⟨b, o + 6, none⟩) 6 (n - 4) (c - 6) (by omega) (by omega) (by omega) (by omega) (by intro _ b o e; cases e; rfl)
    have e3 : n - 4 - 6 = bs.length - 10 := by omega
    rw [e3] at h2
    have GC := fun m => get_any (.slice (some ⟨b, o, none⟩) (4 - 0) c) (bs.take 4) (w.drewN m) (h1.drewN m) (by simp; omega)
    have hok : openOk bs = decide (frameL (getN (bs.take 4)) (bs[4]?.getD 0) ((bs.drop 6).take (bs.length - 10)) = bs) := by
      unfold openOk; rw [decide_eq_true (by omega : 10 ≤ bs.length), Bool.true_and]
    generalize hx : getN (bs.take 4) = x at *
    generalize hy : bs[4]?.getD 0 = y at *
    generalize hB : (bs.drop 6).take (bs.length - 10) = B at *
    have GC := Lib.hid GC
    have HX := Lib.hid hx
    have HY := Lib.hid hy
    have HB' := Lib.hid hB
    have h1c : (4 : Nat) ≤ c := by omega
    rw [← e3] at h2
    have HOK := Lib.hid hok
    rw [hn] at h hnc ⊢
    clear hx hr hn hgl hc hq e1 e3 hy hB hok
    go_enter Tryz.func64, Tryz.ntmps64
    go_wp2
    go_quiet ((go_at_call 103; exact quiet_same' (GC.out _)))
    go_wp2_with fail
    refine (frame_any x y _ B (w.drewN nq) hg.1 (by omega) h4.1 h4.2 h2).mono ?_
    rintro e w1 ⟨v1, rfl, hf, hb1⟩
    have hb2 : Below w.heap.size w w1 := (below_drewN' (Below.refl _ w) nq).trans hb1
    have h3 := h.below hb2
    have h5 := h2.below hb2
    clear hcell GC h1
    go_wp2_with fail
    refine (equal_any _ _ _ _ _ hf h3).mono ?_
    rintro e w2 ⟨rfl, rfl⟩
    have HOK2 := HOK.out
    clear HOK
    by_cases hd : frameL x y B = bs
    · have hd' : decide (frameL x y B = bs) = true := decide_eq_true hd
      rw [hd'] at HOK2 ⊢
      have HOK := Lib.hid HOK2
      clear HOK2 hd hd'
      go_wp2_with fail
      refine (clone_any _ _ _ h5).mono ?_
      rintro e w3 ⟨v3, rfl, _, hv3, hb3⟩
      go_wp2_with fail
      refine bodyPost_ret (results_four rfl _ _ _) rfl ?_
      refine ⟨v3, ?_, ?_, hb2.trans (hb3.mono hb2.size)⟩
      · rw [openS, openP, HOK.out, HX.out, HY.out]; rfl
      · rw [openB, HOK.out, HB'.out]; exact hv3
    · have hd' : decide (frameL x y B = bs) = false := decide_eq_false hd
      rw [hd'] at HOK2 ⊢
      have HOK := Lib.hid HOK2
      clear HOK2 hd hd'
      go_wp2_with fail
      refine bodyPost_ret (results_four rfl _ _ _) rfl ?_
      exact ⟨.slice none 0 0, by rw [openS, openP, HOK.out]; rfl, by rw [openB, HOK.out]; exact HB.nil _, hb2⟩
end Go.Proofs.YtblddkjdglliaaaGreatDoor
