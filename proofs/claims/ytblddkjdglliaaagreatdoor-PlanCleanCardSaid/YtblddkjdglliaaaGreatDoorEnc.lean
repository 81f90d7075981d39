/- Contracts: rs.Encode (of data as long as it must be), stripe.Count, stripe.Split. -/
import Derived.Test.YtblddkjdglliaaaGreatDoorCode
import Derived.Laws.CopyOwn
namespace Go.Proofs.YtblddkjdglliaaaGreatDoor
open Go.RowKit

theorem chop_length (m cnt : Nat) (bs : List Int) : (chop m cnt bs).length = cnt := by simp [chop]
theorem chop_at (m cnt : Nat) (bs : List Int) (hb : bs.length = cnt * m) (i : Nat) (hi : i < cnt) : ((chop m cnt bs)[i]?.getD []).length = m := by
  have h1 : (i + 1) * m ≤ cnt * m := Nat.mul_le_mul_right m hi
  rw [Nat.succ_mul] at h1
  simp [chop, hi]; omega
def encL (k m : Nat) (bs : List Int) : List (List Int) := timesL (codeL k m) (chop 8 k bs) 8

set_option maxRecDepth 100000 in
set_option maxHeartbeats 400000 in
theorem encode_any (k m : Nat) (v : Value) (bs : List Int) (w : World) (hk1 : 1 ≤ k) (hk4 : k ≤ 4) (hm3 : m ≤ 3) (h : HB w v bs) (hl : bs.length = k * 8) :
    Calls Tryz.prog 94 #[.int .i64 k, .int .i64 m, v] w fun e w' => ∃ v, e = .returned (.tuple #[v, .int .i64 0]) ∧ HR w' 0 v (encL k m bs) ∧ (∀ k, v.ownBlock = some k → w.heap.size ≤ k) ∧ Below w.heap.size w w' := by
  have CO := code_any k m w hk1 hk4 hm3
  obtain ⟨A, c, rfl, hc1, hc2, hc3, hr, hA⟩ := id h
  obtain ⟨b, o, cur, fr, rfl, hbk, _⟩ := hA (by omega)
  have hlt := blk_lt hbk
  rw [hl] at h hc1 hc3 ⊢
  have hcl : (codeL k m).length = k + m := by simp [codeL]
  have PA : ∀ W, Below w.heap.size w W → Calls Tryz.prog 133 #[.slice (some ⟨b, o, none⟩) (k * 8) c] W fun e W' => ∃ v, e = .returned v ∧ HM W' v (chop 8 k bs) ∧ Below W.heap.size W W' := by
    intro W hB
    refine (parts_any b o k c (some ⟨b, o, none⟩) W (by omega) hc1 hc2 (fun _ => rfl)).mono ?_
    rintro e w' ⟨v, rfl, ho, hB'⟩
    exact ⟨v, rfl, (HR.parts (by omega) ((h.below hB).below hB') ho).table, hB'⟩
  have TI := fun (va vb : Value) (W : World) (ha : HM W va (codeL k m)) (hb : HM W vb (chop 8 k bs)) =>
    times_any va vb (codeL k m) (chop 8 k bs) 8 W ha hb (by omega) (by rw [chop_length]; omega)
      (fun i hi => by rw [chop_length]; rw [hcl] at hi; simp [codeL, hi, (codeRow_ok k i).1]) (fun i hi => chop_at 8 k bs hl i (by rw [chop_length] at hi; exact hi)) (by omega)
  have HL := Lib.hid hl
  have HCL := Lib.hid hcl
  have PA := Lib.hid PA
  have TI := Lib.hid TI
  clear hl hcl h hA hbk
  generalize hN : k * 8 = N at *
  have HN := Lib.hid hN
  clear hN
  have qT : ∀ (w : World) (a : Addr) (n c : Nat), (binOp .eql 63 (.slice (some a) n c) (.slice none 0 0)).run Tryz.prog w = .ok (.bool false) w := fun w a n c => Lib.run_eql_slice_nil w _ _ _ _ _ _ _ Tryz.underlying63
  go_enter Tryz.func94, Tryz.ntmps94
  go_wp2_with fail
  refine CO.mono ?_
  rintro e w1 ⟨v1, rfl, hR1, _, hB1⟩
  have hR1' := hR1
  obtain ⟨_, us, ho, _⟩ := hR1'
  rw [HCL.out] at ho
  obtain ⟨A1, c1, rfl, _, _⟩ := own_shape ho
  obtain ⟨g, _, rfl, _⟩ := own_pos ho (by omega)
  clear ho
  have hk8 : (k : Int) * 8 = N := by have := HN.out; omega
  have HR1 := Lib.hid hR1
  clear hR1
  go_wp2_with fail
  refine (PA.out w1 hB1).mono ?_
  rintro e w2 ⟨v2, rfl, hM2, hB2⟩
  obtain ⟨A2, n2, c2, rfl⟩ := hM2.shape
  have TI2 := TI.out _ _ w2 (HR1.out.table.below hB2) hM2
  have hB12 := hB1.trans (hB2.mono hB1.size)
  replace TI2 := Lib.hid TI2
  clear hM2 hB2 hB1
  go_wp2_with fail
  refine TI2.out.mono ?_
  rintro e w3 ⟨v3, rfl, hR3, hf3, hB3⟩
  obtain ⟨A3, n3, c3, rfl⟩ := hR3.table.shape
  go_wp2
  go_ret2
  exact ⟨_, rfl, hR3, fun k hk => Nat.le_trans hB12.size (hf3 k hk), hB12.trans (hB3.mono hB12.size)⟩

/-! ### Stripes -/
/-- How many stripes. -/
def countN (k size : Nat) : Nat := if size = 0 then 0 else (size - 1) / (k * 8) + 1
set_option maxRecDepth 100000 in
set_option maxHeartbeats 400000 in
theorem count_any (k size : Nat) (w : World) (hk1 : 1 ≤ k) (hk4 : k ≤ 4) (hs : size ≤ 60000) :
    Calls Tryz.prog 47 #[.int .i64 k, .int .i64 size] w fun e w' => e = .returned (.int .i64 (countN k size)) ∧ w = w' := by
  have h8 : (((size - 1) / (k * 8) : Nat) : Int) = ((size : Int) - 1) / ((k : Int) * 8) ∨ size = 0 := by
    by_cases h : size = 0
    · exact .inr h
    · left
      rw [Int.natCast_ediv]
      congr 1
      omega
  by_cases h0 : size = 0
  · subst h0
    clear h8
    go_enter Tryz.func47, Tryz.ntmps47
    go_wp2
    go_ret
    exact ⟨rfl, rfl⟩
  · have h9 : (((size - 1) / (k * 8) : Nat) : Int) = ((size : Int) - 1) / ((k : Int) * 8) := h8.resolve_right h0
    have hle : (size - 1) / (k * 8) ≤ 60000 := Nat.le_trans (Nat.div_le_self _ _) (by omega)
    have hc : (countN k size : Int) = ((size : Int) - 1) / ((k : Int) * 8) + 1 := by rw [countN, if_neg h0, Int.natCast_add, h9]; rfl
    have H9 := Lib.hid h9
    have HC := Lib.hid hc
    have hle2 : ((size : Int) - 1) / ((k : Int) * 8) ≤ 60000 := by rw [← H9.out]; omega
    have hge2 : 0 ≤ ((size : Int) - 1) / ((k : Int) * 8) := by rw [← H9.out]; exact Int.natCast_nonneg _
    clear h8 h9 hc hle
    go_enter Tryz.func47, Tryz.ntmps47
    go_wp2
    go_ret
    exact ⟨by rw [HC.out]; rfl, rfl⟩

def padL (k : Nat) (bs : List Int) : List Int := bs ++ List.replicate (countN k bs.length * (k * 8) - bs.length) 0
def splitL (k : Nat) (bs : List Int) : List (List Int) := chop (k * 8) (countN k bs.length) (padL k bs)
theorem countN_big (k n : Nat) (hk : 1 ≤ k) : n ≤ countN k n * (k * 8) ∧ countN k n * (k * 8) ≤ n + k * 8 := by
  unfold countN
  by_cases h : n = 0
  · simp [h]
  · rw [if_neg h, Nat.add_mul, Nat.one_mul]
    have h1 := Nat.div_add_mod (n - 1) (k * 8)
    have h2 := Nat.mod_lt (n - 1) (show 0 < k * 8 by omega)
    rw [Nat.mul_comm] at h1
    omega
theorem padL_length (k : Nat) (bs : List Int) (hk : 1 ≤ k) : (padL k bs).length = countN k bs.length * (k * 8) := by
  have := countN_big k bs.length hk
  simp [padL]; omega
theorem padL_range (k : Nat) (bs : List Int) (h : ∀ x ∈ bs, 0 ≤ x ∧ x ≤ 255) : ∀ x ∈ padL k bs, 0 ≤ x ∧ x ≤ 255 := by
  intro x hx
  simp only [padL, List.mem_append, List.mem_replicate] at hx
  rcases hx with hx | ⟨_, rfl⟩
  · exact h x hx
  · omega
set_option maxRecDepth 100000 in
set_option maxHeartbeats 1000000 in
theorem split_any (k : Nat) (v : Value) (bs : List Int) (w : World) (hk1 : 1 ≤ k) (hk4 : k ≤ 4) (h : HB w v bs) (hl : bs.length ≤ 1000) :
    Calls Tryz.prog 95 #[.int .i64 k, v] w fun e w' => ∃ v, e = .returned v ∧ HR w' 0 v (splitL k bs) ∧ (∀ k, v.ownBlock = some k → w.heap.size ≤ k) ∧ Below w.heap.size w w' := by
  have CN := count_any k bs.length w hk1 hk4 (by omega)
  obtain ⟨A, c, rfl, hc1, hc2, hc3, hr, hA⟩ := id h
  have hbig := countN_big k bs.length hk1
  have hpl := padL_length k bs hk1
  have hpr := padL_range k bs h.range
  have hsrc := Src.of_HB h
  by_cases h0 : bs.length = 0
  · have hb : bs = [] := List.eq_nil_of_length_eq_zero h0
    subst hb
    clear hA h hbig hpl hpr hsrc
    have e0 : countN k 0 = 0 := rfl
    simp only [List.length_nil, e0] at CN hc1 ⊢
    go_enter Tryz.func95, Tryz.ntmps95
    go_wp2_with fail
    refine CN.mono ?_
    rintro e w' ⟨rfl, rfl⟩
    go_wp2
    go_ret
    exact ⟨_, rfl, HR.nil _ _, by simp [Value.ownBlock], Below.refl _ _⟩
  · have hn1 : 1 ≤ countN k bs.length := by unfold countN; rw [if_neg h0]; exact Nat.le_add_left 1 _
    obtain ⟨b, o, cur, fr, rfl, hbk, _⟩ := hA (by omega)
    have hHB := Lib.hid h
    have hpad : splice (List.replicate (countN k bs.length * (k * 8)) (Value.int .u8 0)) 0 (ints .u8 bs) = ints .u8 (padL k bs) := by
      unfold splice padL ints
      rw [List.take_zero, List.nil_append, List.map_append, List.map_replicate, List.drop_replicate, List.length_map, Nat.zero_add]
    obtain ⟨n, hn⟩ : ∃ n, countN k bs.length = n := ⟨_, rfl⟩
    obtain ⟨q, hq⟩ : ∃ q, k * 8 = q := ⟨_, rfl⟩
    obtain ⟨T, hT⟩ : ∃ T, n * q = T := ⟨_, rfl⟩
    obtain ⟨N, hN⟩ : ∃ N, bs.length = N := ⟨_, rfl⟩
    have hsp : splitL k bs = chop q n (padL k bs) := by rw [splitL, hn, hq]
    rw [hn, hq, hT] at hpad hpl hbig
    rw [hn] at hn1 CN
    rw [hN] at hbig hl CN hc1 hsrc h0
    rw [hsp]
    rw [hN]
    have hlis : (ints .u8 bs).length = N := by rw [ints_length, hN]
    obtain ⟨src, hs⟩ : ∃ src, ints .u8 bs = src := ⟨_, rfl⟩
    obtain ⟨fin, hf⟩ : ∃ fin, padL k bs = fin := ⟨_, rfl⟩
    have h1c : ∀ v ∈ src, v.oneCell' = true := by rw [← hs]; exact ints_one _ _
    rw [hs, hf] at hpad
    rw [hs] at hsrc hlis
    rw [hf] at hpl hpr ⊢
    obtain ⟨hsl, hsa⟩ := hsrc
    have hkq : (k : Int) * 8 = q := by omega
    have hnq : (n : Int) * (q : Int) = T := by rw [← hT]; simp
    have HPAD := Lib.hid hpad
    have HKQ := Lib.hid hkq
    have HNQ := Lib.hid hnq
    have HT := Lib.hid hT
    have HSA := Lib.hid hsa
    have hq4 : q ≤ 32 := by omega
    have hq1 : 8 ≤ q := by omega
    have hn2 : n ≤ T := by rw [← hT]; exact Nat.le_mul_of_pos_right n (by omega)
    have hblt := blk_lt hbk
    have HPR := Lib.hid hpr
    have HPL := Lib.hid hpl
    have HLS := Lib.hid hlis
    clear hA h hHB hs hf hn hq hT hN hsp hpad hkq hnq hsl hsa hbk hpr hpl hlis
    go_enter Tryz.func95, Tryz.ntmps95
    go_wp2_with fail
    refine CN.mono ?_
    rintro e w' ⟨rfl, rfl⟩
    have hkq := HKQ.out
    have hnq := HNQ.out
    have hmade := Row.made w T
    obtain ⟨W1, hW1⟩ : ∃ W, w.alloc (.cells (madeCells #[Value.int .u8 0] T) 5) = W := ⟨_, rfl⟩
    have hB1 : Below w.heap.size w W1 := by rw [← hW1]; exact (Below.refl _ w).alloc (Nat.le_refl _) _
    rw [hW1] at hmade
    have hgr : W1.heap[w.heap.size]? = some (.cells (List.replicate T (Value.int .u8 0)).toArray 5 (0, 0)) := by simpa [Row, ints] using hmade
    have hps : 0 < src.length → some (⟨w.heap.size, 0, none⟩ : Addr) = some ⟨w.heap.size, 0, none⟩ ∧ ∃ ad, some (⟨b, o, none⟩ : Addr) = some ad ∧ ∀ j v, src[j]? = some v → W1.cell? (ad.add j) = some v := by
      refine fun _ => ⟨rfl, ⟨b, o, none⟩, rfl, fun j v hj => ?_⟩
      obtain ⟨ad, e, hc⟩ := HSA.out (by omega)
      cases e
      have := hc j v hj
      rw [add_lit] at this ⊢
      exact (hB1.cell (p := ⟨b, o + j, none⟩) hblt).trans this
    have HW1 := Lib.hid hW1
    have HGR := Lib.hid hgr
    have HPS := Lib.hid hps
    clear hW1 hmade hgr hps
    have hle : N ≤ T := by omega
    have hcopy : ∃ W2, Sem.run Tryz.prog (Builtin.copy_ #[22, 22] 3 #[.slice (some ⟨w.heap.size, 0, none⟩) T T, .slice (some ⟨b, o, none⟩) N c]) W1 = .ok (.int .i64 N) W2 ∧ W2.heap[w.heap.size]? = some (.cells (ints .u8 fin).toArray 5 (0, 0)) ∧ Below w.heap.size w W2 := by
      obtain ⟨_, ad, e, hcs⟩ := HPS.out (by rw [HLS.out]; omega)
      cases e
      have hrun := run_copy_row (P := Tryz.prog) W1 22 22 3 5 w.heap.size 0 T T ⟨b, o, none⟩ N c (List.replicate T (Value.int .u8 0)).toArray 5 src Tryz.underlying22 (by kernel_rfl) HGR.out (by rw [HLS.out]; exact (Nat.min_eq_left hle).symm) hcs (by rw [HLS.out]; simp; omega) h1c
      rw [HLS.out] at hrun
      refine ⟨_, hrun, ?_, below_setRow hB1 (Nat.le_refl _) _⟩
      rw [← HPAD.out]
      have := setRow_heap W1 w.heap.size _ (src ++ List.drop (0 + N) (List.replicate T (Value.int .u8 0))).toArray 5 _ HGR.out
      simpa [splice, HLS.out] using this
    obtain ⟨W2, hcp, hfin, hB2⟩ := hcopy
    obtain ⟨g, hg⟩ : ∃ g, w.heap.size = g := ⟨_, rfl⟩
    have hHB2 : HB W2 (.slice (some ⟨g, 0, none⟩) T T) fin := Row.HB (by rw [← hg]; exact hfin) HPR.out (by rw [HPL.out]; omega) T HPL.out.symm
    have HHB2 := Lib.hid hHB2
    have hgl : g < W2.heap.size := by rw [← hg]; exact blk_lt hfin
    have HGG := Lib.hid hg
    clear hfin hHB2
    rw [hg] at hcp
    go_wp2_with (at_make; refine make_arm (z := .int .u8 0) (bytes := 1) Tryz.underlying22 Tryz.info5 rfl _ rfl (.tmp 18) (.tmp 18) rfl T rfl rfl rfl rfl (by omega) (by unfold maxLen; omega) ?_; intro hown; rw [HW1.out, HGG.out]; clear hown)
    refine (chunk_any _ q _ (by omega) ⟨_, _, _, rfl⟩).mono ?_
    rintro e w' ⟨rfl, rfl⟩
    have hB3 : Below W2.heap.size W2 ((W2.alloc (.cells #[.slice (some ⟨g, 0, none⟩) T T] 22)).alloc (.cells #[.int .i64 q] 3)) := (((Below.refl _ W2).alloc (Nat.le_refl _) _).alloc (by simp only [World.size_alloc]; omega) _)
    have k1 : ((W2.alloc (.cells #[.slice (some ⟨g, 0, none⟩) T T] 22)).alloc (.cells #[.int .i64 q] 3)).heap[W2.heap.size]? = some (.cells #[.slice (some ⟨g, 0, none⟩) T T] 22 (0, 0)) := blk_alloc (World.alloc_heap_new W2 _) _
    have k2 : ((W2.alloc (.cells #[.slice (some ⟨g, 0, none⟩) T T] 22)).alloc (.cells #[.int .i64 q] 3)).heap[W2.heap.size + 1]? = some (.cells #[.int .i64 q] 3 (0, 0)) := by
      have := World.alloc_heap_new (W2.alloc (.cells #[.slice (some ⟨g, 0, none⟩) T T] 22)) (.cells #[.int .i64 q] 3)
      rw [World.size_alloc] at this
      exact this
    have ksz : ((W2.alloc (.cells #[.slice (some ⟨g, 0, none⟩) T T] 22)).alloc (.cells #[.int .i64 q] 3)).heap.size = W2.heap.size + 2 := by simp only [World.size_alloc]
    generalize ((W2.alloc (.cells #[.slice (some ⟨g, 0, none⟩) T T] 22)).alloc (.cells #[.int .i64 q] 3)) = W3 at *
    have CO := collect_any W2.heap.size (W2.heap.size + 1) g 0 q n T (some ⟨g, 0, none⟩) W3 (by omega) (by omega) (by omega) (by omega) (by rw [HT.out]; omega) (by rw [HT.out]; exact Nat.le_refl _) (by omega) (fun _ => rfl) (by rw [HT.out]; exact k1) k2
    replace CO := Lib.hid CO
    clear hcp k1 k2 ksz
    go_wp2_with fail
    refine CO.out.mono ?_
    rintro e w4 ⟨v4, rfl, ho4, hB4⟩
    obtain ⟨A4, c4, rfl, _, _⟩ := own_shape ho4
    have h4 : HR w4 0 (.slice A4 n c4) (chop q n fin) := by
      have := HHB2.out
      refine HR.parts (b := g) (o := 0) (c := T) (by omega) ?_ (own_zero ho4)
      rw [HT.out]
      exact (this.below hB3).below hB4
    have hsz2 := hB2.size
    have hf4 : ∀ k, (Value.slice A4 n c4).ownBlock = some k → w.heap.size ≤ k := by
      intro j hj
      have := (ho4.lt j hj).1
      have := hB3.size
      omega
    have hB5 := (hB2.trans (hB3.mono hB2.size)).trans (hB4.mono (by have := hB3.size; omega))
    have H4 := Lib.hid h4
    have HF4 := Lib.hid hf4
    clear h4 ho4 hf4
    go_wp2
    go_ret
    exact ⟨_, rfl, H4.out, HF4.out, hB5⟩
end Go.Proofs.YtblddkjdglliaaaGreatDoor
