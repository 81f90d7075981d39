/- Contract: hash.Weight. Conditions: hash.turns holds its numbers. -/
import Derived.Test.YtblddkjdglliaaaGreatDoorSum
namespace Go.Proofs.YtblddkjdglliaaaGreatDoor
open Go.RowKit

theorem sum16_length (bs : List Int) : (sum16 bs).length = 32 := by rw [sum16, outL_length, (takeL_ok _ _).1]
theorem weightL_range (s d : Int) : 0 ≤ weightL s d ∧ weightL s d ≤ 18446744073709551615 := by
  have h := getN_nonneg ((sum16 (putL s 8 ++ putL d 8)).take 8) (fun x hx => outL_range _ x (List.mem_of_mem_take hx))
  have hl : ((sum16 (putL s 8 ++ putL d 8)).take 8).length = 8 := by rw [List.length_take, sum16_length]; rfl
  rw [hl] at h
  have : (256 : Int) ^ 8 = 18446744073709551616 := by decide
  unfold weightL
  omega
set_option maxRecDepth 100000 in
set_option maxHeartbeats 1000000 in
theorem weight_any (s d : Int) (w : World) (hs : 0 ≤ s ∧ s ≤ 1000000000) (hd : 0 ≤ d ∧ d ≤ 1000) (hT : Turns w) :
    Calls Tryz.prog 125 #[.int .i64 s, .int .i64 d] w fun e w' => e = .returned (.int .u64 (weightL s d)) ∧ Below w.heap.size w w' := by
  have ws : IntKind.u64.wrap s = s := IntWalk.u64_in _ (by omega)
  have wd : IntKind.u64.wrap d = d := IntWalk.u64_in _ (by omega)
  have HT := Lib.hid hT
  clear hT
  go_enter Tryz.func125, Tryz.ntmps125
  go_wp2_with fail
  refine (put_any (.slice none 0 0) 0 [] s 8 w hs.1 (by omega) (by omega) (World.ownsRow_nil _ _ _ _)).mono ?_
  rintro e w1 ⟨v1, rfl, ho1, hg1⟩
  have hB1 := hg1.nil_below
  have hf1 := hg1.fresh
  obtain ⟨A1, c1, rfl, _, _⟩ := own_shape ho1
  replace ho1 := Lib.hid ho1
  clear hg1
  go_wp2_with fail
  refine (put_any _ (0 + 8) _ d 8 w1 hd.1 (by omega) (by omega) ho1.out).mono ?_
  rintro e w2 ⟨v2, rfl, ho2, hg2⟩
  have hB2 : Below w.heap.size w w2 := hB1.trans (hg2.chg.to_below hB1.size fun q e => hf1 q e)
  have hHB := HB.of_own ho2 (by
    intro x hx
    simp only [List.nil_append, List.mem_append] at hx
    rcases hx with h | h
    · exact putL_range _ _ x h
    · exact putL_range _ _ x h) (by simp [putL_length])
  obtain ⟨A2, c2, rfl, _, _⟩ := own_shape ho2
  have hS := sum16_any _ _ w2 hHB (by simp [putL_length]) (HT.out.below hB2)
  replace hS := Lib.hid hS
  clear hHB ho2 hg2 ho1
  go_wp2_with fail
  refine hS.out.mono ?_
  rintro e w3 ⟨v3, rfl, ho3, hB3⟩
  have hH3 := HB.of_own ho3 (outL_range _) (by rw [sum16_length]; omega)
  obtain ⟨A3, c3, rfl, h31, h32⟩ := own_shape ho3
  obtain ⟨g, cur, rfl, _⟩ := own_pos ho3 (by omega)
  have hG := get_any (.slice (some ⟨g, 0, none⟩) 8 c3) _ w3 (by
    have := hH3.sub 0 8 c3 (by omega) (by omega) (by omega) h32 (A' := some ⟨g, 0, none⟩) (fun _ b o e => by cases e; rfl)
    exact this) (by simp; omega)
  have h8 : 8 ≤ c3 := by omega
  replace hG := Lib.hid hG
  clear hH3 ho3
  go_wp2_with fail
  refine hG.out.mono ?_
  rintro e w4 ⟨rfl, rfl⟩
  go_wp2
  go_ret
  exact ⟨rfl, hB2.trans (hB3.mono hB2.size)⟩
theorem weightOk : WeightOk weightL := ⟨weightL_range, fun s d w hs hd hT => weight_any s d w hs hd hT⟩
end Go.Proofs.YtblddkjdglliaaaGreatDoor
