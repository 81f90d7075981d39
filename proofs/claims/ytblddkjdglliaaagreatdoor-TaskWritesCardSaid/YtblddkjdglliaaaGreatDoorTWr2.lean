/- The walk of TaskWrites. Conditions: hash.turns holds its numbers; the data's cells are had. -/
import Derived.Test.YtblddkjdglliaaaGreatDoorTWrites
import Derived.Test.YtblddkjdglliaaaGreatDoorQMid
namespace Go.Proofs.YtblddkjdglliaaaGreatDoor
open Go.RowKit

set_option maxRecDepth 100000 in
set_option maxHeartbeats 2000000 in
theorem taskWrites_walk (k8 m8 : Int) (A : Option Addr) (n c : Nat) (ver : Int) (xs : List Int) (w : World) (hT : Turns w) (hk8 : 0 ≤ k8 ∧ k8 ≤ 255) (hm8 : 0 ≤ m8 ∧ m8 ≤ 255) (hv16 : 0 ≤ ver ∧ ver ≤ 65535) (hx : Handed w A n xs) :
    Calls Tryz.prog 8 #[.int .u8 k8, .int .u8 m8, .slice A n c, .int .u16 ver] w fun e w' => e = .returned (.bool true) ∧ Below w.heap.size w w' := by
  have HT := Lib.hid hT
  have HX := Lib.hid hx
  have hxl := hx.1
  have hxr := Lib.hid hx.2.1
  clear hT hx
  have AN := Lib.hid (answers_any w HT.out)
  by_cases hbig : 96 < n
  · have d1 : decide (96 < (n : Int)) = true := decide_eq_true (by omega)
    go_enter Tryz.func8, Tryz.ntmps8
    go_wp2_with fail
    refine AN.out.mono ?_
    rintro e w' ⟨rfl, hB⟩
    go_wp2
    go_ret
    exact ⟨rfl, hB⟩
  have d1 : decide (96 < (n : Int)) = false := decide_eq_false (by omega)
  clear AN
  obtain ⟨K, hK⟩ : ∃ K : Nat, k8 % 4 + 1 = (K : Int) := ⟨(k8 % 4 + 1).toNat, by omega⟩
  obtain ⟨M, hM⟩ : ∃ M : Nat, m8 % 4 = (M : Int) := ⟨(m8 % 4).toNat, by omega⟩
  obtain ⟨V, hV⟩ : ∃ V : Nat, ver + 1 = (V : Int) := ⟨(ver + 1).toNat, by omega⟩
  have hk1 : 1 ≤ K := by omega
  have hk4 : K ≤ 4 := by omega
  have hm3 : M ≤ 3 := by omega
  have hVb : V ≤ 100000 := by omega
  have hn96 : n ≤ 96 := by omega
  replace hxl := Lib.hid hxl
  clear hbig
  go_enter Tryz.func8, Tryz.ntmps8
  go_wp2_with fail
  refine (pnew_any w).mono ?_
  rintro e w1 ⟨rfl, hP1, hB1⟩
  obtain ⟨p, hp⟩ : ∃ p, w.heap.size = p := ⟨_, rfl⟩
  rw [hp] at hP1 ⊢
  have hpw : w.heap.size ≤ p := by omega
  unfold pptr
  have HP1 := Lib.hid hP1
  have HK := Lib.hid hK
  have HM := Lib.hid hM
  have HV := Lib.hid hV
  clear hP1 hp hK hM hV
  go_wp2_with fail
  obtain ⟨W2, hW2⟩ : ∃ W, w1.alloc (.cells #[] 3) = W := ⟨_, rfl⟩
  have hB2 : Below w.heap.size w W2 := by rw [← hW2]; exact hB1.alloc hB1.size _
  have hP2 : IsPool W2 p ⟨.slice none 0 0, []⟩ (pW 0) := by rw [← hW2]; exact HP1.out.below ((Below.refl _ _).alloc (Nat.le_refl _) _)
  have hO2 : W2.ownsRow 0 3 1 (.slice (some ⟨w1.heap.size, 0, none⟩) 0 0) 0 [] := by rw [← hW2]; exact own_zero (empty_own w1 3)
  have PI0 : PI w W2 p ⟨.slice none 0 0, []⟩ (.slice (some ⟨w1.heap.size, 0, none⟩) 0 0) 0 := ⟨hB2, hP2, by
    rintro k (rfl | hk | ⟨x, hx, _⟩)
    · exact hpw
    · simp [Value.ownBlock] at hk
    · simp at hx, hO2, by intro k hk; simp [Value.ownBlock] at hk; have := hB1.size; omega⟩
  replace PI0 := Lib.hid PI0
  rw [hW2]
  clear hW2 hB2 hP2 hO2 HP1 hB1
  go_loopw [12, 13] (fun v i wr => ∃ (q : Nat) (L : Lay), q ≤ K + M + 1 ∧ i = .int .i64 q ∧ PI w wr p L v q) (fun _ i _ => K + M + 2 - (intOf i).toNat)
  case atStart => exact ⟨0, _, by omega, rfl, PI0.out⟩
  case round =>
    obtain ⟨q, L, hq, rfl, hI⟩ := hrel
    obtain ⟨Av, cv, rfl, hcv, -⟩ := own_shape hI.row
    by_cases hlt : q < K + M + 1
    · have AD := padd_any p L (pW q) 20 wr hI.pool
      rw [add_W q (by omega)] at AD
      unfold pptr at AD
      replace AD := Lib.hid AD
      replace hI := Lib.hid hI
      go_wp2_with (first
        | (go_at_call 19; refine AD.out.mono ?_; rintro e w3 ⟨L3, rfl, hP3, hs3⟩; obtain ⟨hB3, hn3, ho3⟩ := hI.out.add hP3 hs3; replace ho3 := Lib.hid ho3; replace hP3 := Lib.hid hP3; replace hn3 := Lib.hid hn3; replace hB3 := Lib.hid hB3; clear hs3)
        | (at_builtin; refine app_arm Tryz.EI _ rfl (.tmp 50) (.tmp 51) rfl (v := .slice Av q cv) rfl (ho3.out.alloc _) rfl (Src.alloc w3 1 [_] _ 1 rfl) (by simp [Value.oneCell']) (by omega) (by unfold maxLen; omega) ?_; intro v4 w4 ho4 hg4 _; obtain ⟨A4, k4, rfl, _⟩ := own_shape ho4))
      have ho4' : w4.ownsRow 0 3 1 (.slice A4 (q + 1) k4) (q + 1) (ints .i64 (List.replicate (q + 1) 1)) := by
        rw [List.replicate_succ', ints_append]; exact ho4
      exact ⟨⟨q + 1, L3, by omega, by go_num, PI.app hB3.out hP3.out hn3.out ho3.out hI.out.newV ho4' hg4.from_alloc⟩, by simp [intOf]; omega⟩
    · obtain rfl : q = K + M + 1 := by omega
      have hst := (HI.of_own hI.row).toC
      replace hI := Lib.hid hI
      replace hst := Lib.hid hst
      clear PI0
      go_wp2_with fail
      have hck1 : checkN 1 (⟨#[107]⟩ : ByteArray).size n = 0 := by
        show (if (1 : Int) < 1 ∨ 4 < 1 then (1 : Int) else if (1 : Int) ≠ 4 ∧ ((⟨#[107]⟩ : ByteArray).size < 1 ∨ 16 < (⟨#[107]⟩ : ByteArray).size) then 5 else if (1 : Int) = 1 ∧ 96 < n then 4 else 0) = 0
        rw [if_neg (by omega), if_neg (by decide), if_neg (by omega)]
      refine (new_handed 0 1 ⟨#[107]⟩ A n c xs wr (HX.out.below hI.out.below) (by omega) hck1).mono ?_
      rintro e w6 ⟨b, rfl, hX6, hbx, hB6⟩
      have hbw : w.heap.size ≤ b := Nat.le_trans hI.out.below.size hbx
      have hBw6 := Lib.hid (hI.out.below.trans (hB6.mono hI.out.below.size))
      have hP6 := Lib.hid (hI.out.pool.below hB6)
      have hnP := Lib.hid hI.out.newP
      replace hst := Lib.hid (hst.out.below hB6)
      replace hX6 := Lib.hid hX6
      unfold tptr
      clear hI hB6 hbx hck1
      have PL := plan_any b (newT 0 1 ⟨#[107]⟩ xs) K M V 1 _ (List.replicate (K + M + 1) 1) w6 hX6.out rfl hst.out (by simp; omega) hk1 hk4 hm3 hVb (by show xs.length ≤ 96; have := hxl.out; omega) (HT.out.below hBw6.out)
      unfold tptr at PL
      replace PL := Lib.hid PL
      have hVV := HV.out
      go_wp2_with fail
      refine PL.out.mono ?_
      have LD := laid_ones xs K M V hk1 hk4 hm3 hVb (by have := hxl.out; omega)
      rintro e w8 (⟨-, rfl, hT8, hch8⟩ | ⟨hno, -, -⟩)
      case inr => exact absurd (.inr (by rw [insL_ones]; simp)) hno
      change IsTask w8 b (tW xs K M V) at hT8
      have S8 : SF w w8 b p (tW xs K M V) L (pW (K + M + 1)) := ⟨hBw6.out.trans (hch8.to_below hBw6.out.size (by rintro k rfl; exact hbw)), hT8, hP6.out.task hX6.out hch8, hbw, hnP.out⟩
      have hTx : (tW xs K M V).data = xs := rfl
      replace S8 := Lib.hid S8
      have hcl := planL_length (List.replicate (K + M + 1) 1) K M V 1 (countN K xs.length)
      change (tW xs K M V).strs.length = countN K xs.length at hcl
      rw [hxl.out] at hcl
      have hSl : (tW xs K M V).strs.length ≤ 100 ∧ ∀ s ∈ (tW xs K M V).strs, s.locs.length ≤ 1000 := by
        refine ⟨Nat.le_trans LD.few (by decide), fun s hs => ?_⟩
        obtain ⟨i, hi, rfl⟩ := List.getElem_of_mem hs
        have := LD.ready.locs i hi
        rw [List.getElem?_eq_getElem hi] at this
        show _ ≤ _
        simp at this
        omega
      clear hT8 hch8 hX6 hP6 hnP hst PL hVV hBw6
      have OB := S8.out.object hSl.1 hSl.2
      obtain ⟨T, hTT⟩ : ∃ T, tW xs K M V = T := ⟨_, rfl⟩
      rw [hTT] at LD S8 OB hTx hcl
      have hT0 : T.at_ = 0 := by rw [← hTT]; rfl
      unfold tptr at OB
      replace OB := Lib.hid OB
      have hlf := LD.few
      replace LD := Lib.hid LD
      replace hTT := Lib.hid hTT
      have r3 := run_obj3
      clear hSl
      go_wp2_with fail
      refine OB.out.mono ?_
      rintro e w9 ⟨v9, rfl, hS9, -, S9⟩
      obtain ⟨A9, n9, c9, rfl⟩ := hS9.shape
      have hn9 := hS9.cell.1
      rw [hn9] at hS9 ⊢
      obtain ⟨N, hN⟩ : ∃ N, T.strs.length = N := ⟨_, rfl⟩
      rw [hN] at hcl hS9 hlf ⊢
      replace S9 := Lib.hid S9
      replace hS9 := Lib.hid hS9
      have HN := Lib.hid hN
      replace hcl := Lib.hid hcl
      clear OB S8 hn9 hN
      go_wp2_with fail
      obtain ⟨Q, hQ⟩ : ∃ Q : Nat, Q = N * (K + M) := ⟨_, rfl⟩
      have hQb : Q ≤ 84 := by rw [hQ]; exact Nat.le_trans (Nat.mul_le_mul hlf (show K + M ≤ 7 by omega)) (by decide)
      have hQI : (2 * (N : Int)) * ((K : Int) + M) = ((2 * Q : Nat) : Int) := by rw [hQ]; push_cast; rw [Int.mul_assoc]
      replace hQ := Lib.hid hQ
      go_loopw [16] (fun i wr => ∃ (a : Nat) (L : Lay) (mp : PoolM), a ≤ 2 * Q ∧ i = .int .i64 a ∧ SF w wr b p (tWa T a) L mp ∧ WAt T K M (K + M + 1) mp a ∧ HS wr w8.heap.size (.slice A9 N c9) T.strs) (fun i _ => 2 * Q + 1 - (intOf i).toNat)
      case atStart => exact ⟨0, L, _, by omega, rfl, by rw [show tWa T 0 = T by unfold tWa; rw [show ((0 : Nat) : Int) = T.at_ from hT0.symm]]; exact S9.out, wat_zero T K M _, hS9.out⟩
      case round =>
        obtain ⟨a, L, mp, ha, rfl, S, hWa, hS⟩ := hrel
        replace S := Lib.hid S
        replace hWa := Lib.hid hWa
        replace hS := Lib.hid hS
        by_cases hlt2 : a < 2 * Q
        · have NX := nextW hk4 hm3 LD.out S.out hWa.out (by rw [HN.out, ← hQ.out]; exact hlt2)
          unfold tptr pptr at NX
          replace NX := Lib.hid NX
          go_wp2_with fail
          refine NX.out.mono ?_
          rintro e w10 ⟨L10, mp10, rfl, S10, hW10, hk10⟩
          replace S10 := Lib.hid S10
          replace hW10 := Lib.hid hW10
          replace hS := Lib.hid (hk10 _ _ _ hS.out)
          clear hk10 NX
          go_wp2_with fail
          exact ⟨⟨a + 1, L10, mp10, by omega, by go_num, S10.out, hW10.out, hS.out⟩, by simp [intOf]; omega⟩
        · obtain rfl : a = 2 * Q := by omega
          have hWF : WF T K M (K + M + 1) mp (T.strs.length * (K + M)) := by
            rcases hWa.out with ⟨h1, -⟩ | ⟨b', h1, h2, h3⟩
            · rw [HN.out, ← hQ.out] at h1; omega
            · rw [HN.out, ← hQ.out] at h1 h2 ⊢
              obtain rfl : b' = Q := by omega
              exact h3
          have ND := next_done b (tWa T (2 * Q)) (pptr p) K M wr S.out.task LD.out.ready.op LD.out.ready.planned (by show T.strs.length ≤ 100; rw [HN.out]; omega) hk4 hm3 (by show ((2 * Q : Nat) : Int) = ((2 * (T.strs.length * (K + M)) : Nat) : Int); rw [HN.out, ← hQ.out])
          unfold tptr pptr at ND
          replace ND := Lib.hid ND
          replace hWF := Lib.hid hWF
          clear hWa
          go_wp2_with fail
          refine ND.out.mono ?_
          rintro e w11 ⟨rfl, rfl⟩
          have hle16 := Lib.hid (own_zero (empty_own wr 5))
          have hX16 := Lib.hid (HX.out.below S.out.below)
          replace hxr := Lib.hid hxr
          clear ND
          go_wp2_with (at_builtin; first
            | (refine app_arm Tryz.E8 _ rfl (.tmp 105) (.tmp 106) rfl (v := .slice (some ⟨wr.heap.size, 0, none⟩) 0 0) rfl hle16.out rfl (Src.of_handed (hX16.out.below ((Below.refl _ wr).alloc (Nat.le_refl _) _))) (ints_one _ _) (by omega) (by unfold maxLen; omega) ?_; intro v17 w17 ho17 hg17 hnil17; simp only [Nat.zero_add, List.nil_append] at ho17; obtain ⟨A17, k17, rfl, hk17, _⟩ := own_shape ho17; obtain ⟨g17, rfl⟩ : ∃ g, A17 = some ⟨g, 0, none⟩ := (by rcases ho17.2 with ⟨hv, _⟩ | ⟨g, cap, cur, hv, _⟩; (· exact absurd (hnil17.1 hv).1 (by simp)); (· simp only [Value.slice.injEq] at hv; exact ⟨g, hv.1⟩)); have hB17 : Below wr.heap.size wr w17 := (((Below.refl _ wr).alloc (Nat.le_refl _) _).trans (hg17.chg.to_below (by simp) (by intro k hk; simp [Value.ownBlock] at hk; omega))))
            | (obtain ⟨v19, w19, hr19, ho19, hg19⟩ := zeros_run w17 g17 n k17 32 xs 22 (by decide) ho17 (by omega); refine Lib.wpList_append_run _ rfl (.tmp 107) (.const (.int .i64 32)) _ _ rfl _ _ rfl rfl _ _ hr19 ?_; obtain ⟨A19, k19, rfl, hk19, _⟩ := own_shape ho19; obtain ⟨g19, -, rfl, -⟩ := own_pos ho19 (by omega)))
          have hg17b : wr.heap.size ≤ g17 := by
            rcases hg17.at_ with f | f
            · simp [Value.ownBlock] at f; omega
            · have := f g17 rfl; simp at this; omega
          have hB19 : Below wr.heap.size wr w19 := hB17.trans (hg19.chg.to_below hB17.size (by intro k hk; simp [Value.ownBlock] at hk; omega))
          have hW19 := HB.of_own ho19 (by
            intro x hx
            rcases List.mem_append.1 hx with h | h
            · exact hxr.out.out x h
            · rw [List.eq_of_mem_replicate h]; omega) (by have := hxl.out; simp; omega)
          have S19 := Lib.hid (S.out.grow hB19)
          have hS19 := Lib.hid (hS.out.below hB19)
          have hSp := fun i hi => full_split K xs hk1 hk4 i (by rw [hxl.out, ← hcl.out]; exact hi)
          have SB : ∀ W, Below w19.heap.size w19 W → ∀ i, i < N → HB W (.slice (some ⟨g19, i * (K * 8), none⟩) (K * 8) (k19 - i * (K * 8))) ((splitL K xs)[i]?.getD []) := by
            intro W hB i hi
            obtain ⟨h1, h2⟩ := hSp i hi
            rw [hxl.out] at h1
            have := (hW19.below hB).sub (i * (K * 8)) (i * (K * 8) + K * 8) (k19 - i * (K * 8)) (by omega) (by omega) (by omega) (by omega) (A' := some ⟨g19, i * (K * 8), none⟩) (fun _ b' o' e => by cases e; simp)
            rw [Nat.add_sub_cancel_left, h2] at this
            exact this
          have hSq : ∀ i, i < N → i * (K * 8) + K * 8 ≤ n + 32 := by
            intro i hi
            have := (hSp i hi).1
            rwa [hxl.out] at this
          replace SB := Lib.hid SB
          replace hSq := Lib.hid hSq
          clear hg17b hB17 hg17 ho17 hr19 hg19 ho19 hW19 hB19 hX16 hle16 hSp S hS hnil17
          go_wp2_with fail
          go_loopw [22] (fun i wr => ∃ q : Nat, q ≤ N ∧ i = .int .i64 q ∧ Below w19.heap.size w19 wr) (fun i _ => N - (intOf i).toNat)
          case atStart => exact ⟨0, by omega, rfl, Below.refl _ _⟩
          case round =>
            obtain ⟨i, hi, rfl, hB⟩ := hrel
            by_cases hltN : i < N
            · have hE := SB.out wr hB i hltN
              have hsq := hSq.out i hltN
              obtain ⟨X, hX⟩ : ∃ X : Nat, i * (K * 8) = X := ⟨_, rfl⟩
              rw [hX, Nat.mul_comm K 8] at hE
              rw [hX] at hsq
              have hXI : 8 * (K : Int) * (i : Int) = (X : Int) := by rw [← hX, Nat.mul_comm i]; push_cast; rw [Int.mul_comm (8 : Int)]
              have EN := refEncode_any K M _ _ wr hk1 hk4 hm3 hE (by rw [← hTx]; exact splitL_len K T.data hk1 i (by rw [hTx, hxl.out, ← hcl.out]; exact hltN))
              replace EN := Lib.hid EN
              have hX1 : X + K * 8 ≤ k19 := by omega
              have hX2 : (X : Int) + 8 * K ≤ k19 := by omega
              have hX3 : (X : Int) + 8 * K ≤ ((n + 32 : Nat) : Int) := by omega
              clear hE hX
              go_wp2_with fail
              refine EN.out.mono ?_
              rintro e w20 ⟨v20, rfl, hM20, hB20⟩
              obtain ⟨A20, n20, c20, rfl⟩ := hM20.shape
              have hn20 := hM20.cell.1
              rw [encL_length] at hn20
              subst hn20
              have hBx := hB.trans (hB20.mono hB.size)
              have hShd : ∀ j, (encL K M ((splitL K xs)[i]?.getD []))[j]?.getD [] = shardL K M T.data i j := fun j => by rw [hTx]; rfl
              replace hM20 := Lib.hid hM20
              replace hShd := Lib.hid hShd
              replace hBx := Lib.hid hBx
              have S20 := Lib.hid (S19.out.grow hBx.out)
              have hS20 := Lib.hid (hS19.out.below hBx.out)
              clear EN hX1 hX2 hX3 hXI hsq hB hB20
              go_wp2_with fail
              go_loopw [24] (fun i wr => ∃ q : Nat, q ≤ K + M ∧ i = .int .i64 q ∧ Below w20.heap.size w20 wr) (fun i _ => K + M - (intOf i).toNat)
              case atStart => exact ⟨0, by omega, rfl, Below.refl _ _⟩
              case round =>
                obtain ⟨j, hj, rfl, hB2⟩ := hrel
                by_cases hltj : j < K + M
                · obtain ⟨tl1, tl2⟩ := LD.out.told hWF.out (q := i) (r := j) (by rw [HN.out]; exact hltN) hltj
                  obtain ⟨-, hnc9, -, hce⟩ := (hS20.out.below hB2).cell
                  obtain ⟨g9, u9, rfl, m0, -, m2, hu9⟩ := hce i hltN
                  have hlc := LD.out.ready.locs i (by rw [HN.out]; exact hltN)
                  obtain ⟨X9, x9, y9, rfl⟩ := hu9.shape
                  obtain ⟨hx9, hxy9, hxc9⟩ := hu9.toC.cell
                  rw [hlc] at hx9
                  subst hx9
                  obtain ⟨lb, lo, rfl, ml⟩ := hxc9 j hltj
                  obtain ⟨-, -, -, -, hme⟩ := (hM20.out.below hB2).cell
                  obtain ⟨gb, go, ub, rfl, mb, hub⟩ := hme j hltj
                  rw [hShd.out] at hub
                  obtain ⟨Xb, xb, yb, rfl⟩ := hub.shape
                  unfold TaskM.locAt at tl1 tl2
                  obtain ⟨st, hst⟩ : ∃ st, T.strs[i]?.getD .zero = st := ⟨_, rfl⟩
                  obtain ⟨bs, hbs⟩ : ∃ bs, shardL K M T.data i j = bs := ⟨_, rfl⟩
                  rw [hst] at m0 ml tl1 tl2
                  rw [hbs] at hub tl1
                  have LO := fun W (hBW : Below w20.heap.size w20 W) => pload_any p L mp (st.locs[j]?.getD 0) st.id j W (S20.out.grow hBW).pool
                  rw [tl1] at LO
                  have LA := fun W (hBW : Below w20.heap.size w20 W) => plasts_any p L mp (st.locs[j]?.getD 0) st.id j W (S20.out.grow hBW).pool
                  rw [tl2] at LA
                  obtain ⟨sid, sep, sl⟩ := st
                  simp only at m0 ml LO LA
                  generalize sl[j]?.getD 0 = z at *
                  unfold pptr at LO LA
                  replace LO := Lib.hid LO
                  replace LA := Lib.hid LA
                  replace hub := Lib.hid hub
                  replace hB2 := Lib.hid hB2
                  have hjI : (j : Int) < (K + M : Nat) := by omega
                  have hiI : (i : Int) < N := by omega
                  have m0' := Lib.hid m0
                  have m2' := Lib.hid m2
                  have ml' := Lib.hid ml
                  have mb' := Lib.hid mb
                  clear hce hlc hxc9 hme hst hbs tl1 tl2 hu9
                  go_upto_region 32 with fail
                  refine region_quiet_mid 15 (by kernel_rfl) (by kernel_rfl) rfl ?_
                  simp only [List.take_succ_cons, List.take_zero]
                  repeat (quiet_step (fail))
                  refine wpQuiet_nil ?_
                  intro _ hw'
                  obtain ⟨nq, hw''⟩ := hw'
                  subst hw''
                  have hB3 := hB2.out.trans (below_drewN' (Below.refl _ wr) nq |>.mono hB2.out.size)
                  have hBd : Below wr.heap.size wr (wr.drewN nq) := below_drewN' (Below.refl _ wr) nq
                  replace hBd := Lib.hid hBd
                  have LO2 := Lib.hid (LO.out _ hB3)
                  clear LO hB3
                  intro K3 hK3
                  go_simp
                  go_at_call 30
                  refine LO2.out.mono ?_
                  rintro e w25 ⟨v25, rfl, hv25, hB25⟩
                  have hB6 := hBd.out.trans hB25
                  refine hK3 _ _ ?_
                  clear hK3 K3
                  repeat (quiet_step (fail))
                  refine wpQuiet_nil ?_
                  intro _ hw'
                  obtain ⟨nq2, hw''⟩ := hw'
                  subst hw''
                  replace hv25 := hv25.below (below_drewN' (Below.refl _ w25) nq2)
                  replace hB6 := hB6.trans (below_drewN' (Below.refl _ w25) nq2 |>.mono hB6.size)
                  obtain ⟨w26, hw26⟩ : ∃ w, w25.drewN nq2 = w := ⟨_, rfl⟩
                  rw [hw26] at hv25 hB6 ⊢
                  clear hw26
                  obtain ⟨A25, n25, c25, rfl⟩ := hv25.shape
                  have hB5 := hB2.out.trans (hB6.mono hB2.out.size)
                  have SAME := fun q => bytes_same _ _ bs (w26.drewN q) (hv25.below (below_drewN' (Below.refl _ _) q)).toC ((hub.out.below hB6).below (below_drewN' (Below.refl _ _) q)).toC
                  have k0 : w26.cell? ⟨g9, i * 3, none⟩ = some (.int .i64 sid) := by rw [hB6.cell (cell_lt m0'.out)]; exact m0'.out
                  have k2 : w26.cell? ⟨g9, i * 3 + 2, none⟩ = some (.slice (some ⟨lb, lo, none⟩) (K + M) y9) := by rw [hB6.cell (cell_lt m2'.out)]; exact m2'.out
                  have kl : w26.cell? ⟨lb, lo + j, none⟩ = some (.int .i64 z) := by rw [hB6.cell (cell_lt ml'.out)]; exact ml'.out
                  have kb : w26.cell? ⟨gb, go + j, none⟩ = some (.slice Xb xb yb) := by rw [hB6.cell (cell_lt mb'.out)]; exact mb'.out
                  replace SAME := Lib.hid SAME
                  replace hB5 := Lib.hid hB5
                  clear m0 m2 ml mb hB6 hv25 LO2 hBd hB25
                  go_wp2_with fail
                  refine region_quiet_tail 27 (by kernel_rfl) (by kernel_rfl) ?_
                  simp only [List.take_succ_cons, List.take_zero, List.drop_succ_cons, List.drop_zero]
                  repeat (quiet_step ((go_at_call 31; exact quiet_one (SAME.out _))))
                  refine wpQuiet_nil ?_
                  intro _ hw'
                  obtain ⟨nq3, hw''⟩ := hw'
                  subst hw''
                  have hB7 := Lib.hid (hB5.out.trans (below_drewN' (Below.refl _ w26) nq3 |>.mono hB5.out.size))
                  clear k0 k2 kl kb SAME
                  go_wp2_with fail
                  refine (LA.out _ hB7.out).mono ?_
                  rintro e w27 ⟨rfl, hB27⟩
                  go_wp2_with fail
                  exact ⟨⟨j + 1, by omega, by go_num, hB7.out.trans (hB27.mono hB7.out.size)⟩, by simp [intOf]; omega⟩
                · obtain rfl : j = K + M := by omega
                  replace hB2 := Lib.hid hB2
                  go_wp2_with fail
                  exact ⟨⟨i + 1, by omega, by go_num, hBx.out.trans (hB2.out.mono hBx.out.size)⟩, by simp [intOf]; omega⟩
            · obtain rfl : i = N := by omega
              have S30 := S19.out.grow hB
              have AN := Lib.hid (answers_any wr (HT.out.below S30.below))
              go_wp2_with fail
              refine AN.out.mono ?_
              rintro e w30 ⟨rfl, hB30⟩
              go_wp2
              go_ret
              exact ⟨rfl, (S30.grow hB30).below⟩
end Go.Proofs.YtblddkjdglliaaaGreatDoor
