/-
  DERIVED: THE SHELF's CONTRACTS AT THIS DUMP, IN PLAIN WORDS (tools/lay-plain.mjs out of 'TryzShelf.lean', which tools/lay-shelf.mjs wrote): THE SAME DECLARATIONS UNDER THE SAME NAMES: 'import', 'namespace', 'open', 'def', 'theorem' AND NOTHING ELSE: no command of the shelf's: FOR A HAND-IN. Each laying: the table of numbers ('.._ren') and one theorem, a field a fact of the dump's own or the kernel's comparison; each contract: ONE APPLICATION.
-/
import Derived.Shelf.SlIter.Nil
import Derived.Shelf.SortM.Plain
import Derived.Shelf.SortM.SortNone
import Derived.Ground.GgzProg
import Derived.Ground.SlgmProg
import Derived.Test.YtblddkjdglliaaaGreatDoorProg
namespace Go.Proofs
open Go.Shelf
def Tryz.keys113_ren : Go.Shelf.Ren := ⟨fun | 7 => 113 | 10 => 139 | n => n, fun | 23 => 128 | 26 => 9 | 3 => 32 | 28 => 158 | 0 => 0 | 27 => 157 | 33 => 184 | 4 => 4 | n => n, fun | n => n⟩
theorem Tryz.keys113 : Go.Proofs.SlLaysZ.n7 Tryz.prog Tryz.keys113_ren := {
  mixed := by kernel_rfl
  f7 := ⟨Tryz.f113.name, by decide, Tryz.func113.trans (congrArg some (by kernel_rfl))⟩
  f10 := ⟨Tryz.f139.name, by decide, Tryz.func139.trans (congrArg some (by kernel_rfl))⟩
  t0 := Tryz.underlying0
  a0 := Tryz.isAgg0
  z0 := Tryz.sizeOf0
  v0 := Tryz.zeroValue0
  t4 := Tryz.underlying4
  a4 := Tryz.isAgg4
  z4 := Tryz.sizeOf4
  v4 := Tryz.zeroValue4
  t23 := Tryz.underlying128
  a23 := Tryz.isAgg128
  z23 := Tryz.sizeOf128
  v23 := Tryz.zeroValue128
  t26 := Tryz.underlying9
  a26 := Tryz.isAgg9
  z26 := Tryz.sizeOf9
  v26 := Tryz.zeroValue9
  t27 := Tryz.underlying157
  a27 := Tryz.isAgg157
  z27 := Tryz.sizeOf157
  v27 := Tryz.zeroValue157
  t28 := Tryz.underlying158
  a28 := Tryz.isAgg158
  z28 := Tryz.sizeOf158
  v28 := Tryz.zeroValue158
  t33 := Tryz.underlying184
  a33 := Tryz.isAgg184
  z33 := Tryz.sizeOf184
  v33 := Tryz.zeroValue184 }
def Tryz.sorted112_ren : Go.Shelf.Ren := ⟨fun | 6 => 112 | 8 => 137 | 9 => 138 | 11 => 167 | 13 => 115 | 12 => 168 | 23 => 148 | 24 => 149 | 14 => 195 | 15 => 196 | 16 => 197 | 17 => 198 | 18 => 199 | 19 => 200 | 20 => 201 | 21 => 202 | 22 => 203 | 25 => 216 | 26 => 170 | 27 => 171 | 28 => 217 | 29 => 218 | 30 => 219 | 31 => 231 | n => n, fun | 26 => 9 | 28 => 158 | 24 => 112 | 0 => 0 | 3 => 3 | 37 => 162 | 48 => 146 | 50 => 138 | 4 => 4 | 40 => 187 | 39 => 186 | 45 => 191 | 5 => 5 | 9 => 9 | 51 => 214 | 55 => 218 | 57 => 240 | 58 => 241 | 33 => 184 | n => n, fun | n => n⟩
theorem Tryz.sorted112 : Go.Proofs.SlLaysZ.n6 Tryz.prog Tryz.sorted112_ren := {
  mixed := by kernel_rfl
  f6 := ⟨Tryz.f112.name, by decide, Tryz.func112.trans (congrArg some (by kernel_rfl))⟩
  f8 := ⟨Tryz.f137.name, by decide, Tryz.func137.trans (congrArg some (by kernel_rfl))⟩
  f11 := ⟨Tryz.f167.name, by decide, Tryz.func167.trans (congrArg some (by kernel_rfl))⟩
  t0 := Tryz.underlying0
  a0 := Tryz.isAgg0
  z0 := Tryz.sizeOf0
  v0 := Tryz.zeroValue0
  t24 := Tryz.underlying112
  a24 := Tryz.isAgg112
  z24 := Tryz.sizeOf112
  v24 := Tryz.zeroValue112
  t26 := Tryz.underlying9
  a26 := Tryz.isAgg9
  z26 := Tryz.sizeOf9
  v26 := Tryz.zeroValue9
  t28 := Tryz.underlying158
  a28 := Tryz.isAgg158
  z28 := Tryz.sizeOf158
  v28 := Tryz.zeroValue158
  i26 := by kernel_rfl }
def Tryz.sort138_ren : Go.Shelf.Ren := ⟨fun | 6 => 138 | 8 => 115 | 9 => 168 | 19 => 148 | 20 => 149 | 21 => 195 | 22 => 196 | 23 => 197 | 24 => 198 | 25 => 199 | 26 => 200 | 27 => 201 | 28 => 202 | 29 => 203 | 36 => 216 | 31 => 170 | 32 => 171 | 37 => 217 | 38 => 218 | 39 => 219 | 41 => 231 | n => n, fun | 27 => 112 | 29 => 9 | 3 => 3 | 32 => 162 | 26 => 112 | 0 => 0 | 44 => 146 | 46 => 138 | 4 => 4 | 36 => 187 | 35 => 186 | 41 => 191 | 5 => 5 | 9 => 9 | 53 => 214 | 57 => 218 | 63 => 240 | 64 => 241 | n => n, fun | n => n⟩
theorem Tryz.sort138 : Go.Proofs.SlLaysM.n6 Tryz.prog Tryz.sort138_ren := {
  mixed := by kernel_rfl
  f6 := ⟨Tryz.f138.name, by decide, Tryz.func138.trans (congrArg some (by kernel_rfl))⟩
  f8 := Tryz.func115.trans (congrArg some (by kernel_rfl))
  f9 := ⟨Tryz.f168.name, by decide, Tryz.func168.trans (congrArg some (by kernel_rfl))⟩
  f19 := Tryz.func148.trans (congrArg some (by kernel_rfl))
  f20 := Tryz.func149.trans (congrArg some (by kernel_rfl))
  f21 := ⟨Tryz.f195.name, by decide, Tryz.func195.trans (congrArg some (by kernel_rfl))⟩
  f22 := ⟨Tryz.f196.name, by decide, Tryz.func196.trans (congrArg some (by kernel_rfl))⟩
  f23 := ⟨Tryz.f197.name, by decide, Tryz.func197.trans (congrArg some (by kernel_rfl))⟩
  f24 := ⟨Tryz.f198.name, by decide, Tryz.func198.trans (congrArg some (by kernel_rfl))⟩
  f25 := ⟨Tryz.f199.name, by decide, Tryz.func199.trans (congrArg some (by kernel_rfl))⟩
  f26 := ⟨Tryz.f200.name, by decide, Tryz.func200.trans (congrArg some (by kernel_rfl))⟩
  f27 := ⟨Tryz.f201.name, by decide, Tryz.func201.trans (congrArg some (by kernel_rfl))⟩
  f28 := ⟨Tryz.f202.name, by decide, Tryz.func202.trans (congrArg some (by kernel_rfl))⟩
  f29 := ⟨Tryz.f203.name, by decide, Tryz.func203.trans (congrArg some (by kernel_rfl))⟩
  f31 := Tryz.func170.trans (congrArg some (by kernel_rfl))
  f32 := Tryz.func171.trans (congrArg some (by kernel_rfl))
  f36 := ⟨Tryz.f216.name, by decide, Tryz.func216.trans (congrArg some (by kernel_rfl))⟩
  f37 := ⟨Tryz.f217.name, by decide, Tryz.func217.trans (congrArg some (by kernel_rfl))⟩
  f38 := ⟨Tryz.f218.name, by decide, Tryz.func218.trans (congrArg some (by kernel_rfl))⟩
  f39 := ⟨Tryz.f219.name, by decide, Tryz.func219.trans (congrArg some (by kernel_rfl))⟩
  f41 := ⟨Tryz.f231.name, by decide, Tryz.func231.trans (congrArg some (by kernel_rfl))⟩
  t0 := Tryz.underlying0
  a0 := Tryz.isAgg0
  z0 := Tryz.sizeOf0
  v0 := Tryz.zeroValue0
  t3 := Tryz.underlying3
  a3 := Tryz.isAgg3
  z3 := Tryz.sizeOf3
  v3 := Tryz.zeroValue3
  t4 := Tryz.underlying4
  a4 := Tryz.isAgg4
  z4 := Tryz.sizeOf4
  v4 := Tryz.zeroValue4
  t5 := Tryz.underlying5
  a5 := Tryz.isAgg5
  z5 := Tryz.sizeOf5
  v5 := Tryz.zeroValue5
  t9 := Tryz.underlying9
  a9 := Tryz.isAgg9
  z9 := Tryz.sizeOf9
  v9 := Tryz.zeroValue9
  t26 := Tryz.underlying112
  a26 := Tryz.isAgg112
  z26 := Tryz.sizeOf112
  v26 := Tryz.zeroValue112
  t27 := Tryz.underlying112
  a27 := Tryz.isAgg112
  z27 := Tryz.sizeOf112
  v27 := Tryz.zeroValue112
  t29 := Tryz.underlying9
  a29 := Tryz.isAgg9
  z29 := Tryz.sizeOf9
  v29 := Tryz.zeroValue9
  t32 := Tryz.underlying162
  a32 := Tryz.isAgg162
  z32 := Tryz.sizeOf162
  v32 := Tryz.zeroValue162
  t35 := Tryz.underlying186
  a35 := Tryz.isAgg186
  z35 := Tryz.sizeOf186
  v35 := Tryz.zeroValue186
  t36 := Tryz.underlying187
  a36 := Tryz.isAgg187
  z36 := Tryz.sizeOf187
  v36 := Tryz.zeroValue187
  t41 := Tryz.underlying191
  a41 := Tryz.isAgg191
  z41 := Tryz.sizeOf191
  v41 := Tryz.zeroValue191
  t44 := Tryz.underlying146
  a44 := Tryz.isAgg146
  z44 := Tryz.sizeOf146
  v44 := Tryz.zeroValue146
  t46 := Tryz.underlying138
  a46 := Tryz.isAgg138
  z46 := Tryz.sizeOf138
  v46 := Tryz.zeroValue138
  t53 := Tryz.underlying214
  a53 := Tryz.isAgg214
  z53 := Tryz.sizeOf214
  v53 := Tryz.zeroValue214
  t57 := Tryz.underlying218
  a57 := Tryz.isAgg218
  z57 := Tryz.sizeOf218
  v57 := Tryz.zeroValue218
  t63 := Tryz.underlying240
  a63 := Tryz.isAgg240
  z63 := Tryz.sizeOf240
  v63 := Tryz.zeroValue240
  t64 := Tryz.underlying241
  a64 := Tryz.isAgg241
  z64 := Tryz.sizeOf241
  v64 := Tryz.zeroValue241 }
open Go.RowKit Go.Maps Go.Sort Go.Shelf

/-- slices.Sort's two contracts at this dump, at the fence that asks nothing. -/
theorem Tryz.sorts112 (m : Nat) : AnyZ.SortsIn Tryz.prog Tryz.sorted112_ren Fence.wide m :=
  ⟨fun blk off cap ss W hH hblk hsz => callsIn_wide.2 (AnyM.slices_Sort_string Tryz.sort138 blk off cap ss W hH hblk hsz),
   fun p cap W => callsIn_wide.2 (AnyM.slices_Sort_string_none Tryz.sort138 p cap W)⟩

/-- **maps.Keys[map[string]flitting/api.Object,string,flitting/api.Object], at whatever map, the nil one too:** a function value over ONE NEW BLOCK, which holds the map. -/
theorem Tryz.maps_Keys_113 (mb : Option Nat) (W : World) : CallsIn Fence.wide 5 Tryz.prog 113 #[.map mb] W fun e w' => e = .returned (.func (.func 139) #[] #[.pointer (some ⟨W.heap.size, 0, none⟩)]) ∧ w' = W.alloc (.cells #[.map mb] 128) :=
  AnyZ.keys_in Tryz.keys113 Fence.wide 5 trivial rfl mb W

set_option maxHeartbeats 1000000 in
/-- **slices.Sorted[string] AT WHAT maps.Keys[map[string]flitting/api.Object,string,flitting/api.Object] HANDED BACK FOR A MAP THAT IS NOT nil** ('w': the world AHEAD of maps.Keys' call): A NEW SLICE THAT HOLDS THE MAP's KEYS, SORTED; nil just where it has none; nothing that lay before has turned. -/
theorem Tryz.slices_Sorted_keys_112_113 {H : Type} (b nn : Nat) (D0 : DataW H) (R : Value → Option (DataW H × List MemPlace)) (w : World) (hown : w.ownsMap Tryz.prog 9 R b nn D0) (hmax : Maps.size D0 ≤ maxLen) (hbytes : Maps.size D0 * 16 ≤ 140737488355328) :
    CallsIn Fence.wide 5 Tryz.prog 112 #[.func (.func 139) #[] #[.pointer (some ⟨w.heap.size, 0, none⟩)]] (w.alloc (.cells #[.map (some b)] 128)) fun e w' => ∃ (v : Value) (ss : List (List UInt8)), e = .returned v ∧ ss.Perm (strKeys D0) ∧
      w'.ownsRow (w.alloc (.cells #[.map (some b)] 128)).heap.size 9 1 v ss.length ((ss.mergeSort (fun x y => decide (x ≤ y))).map encStr) ∧ (v = .slice none 0 0 ↔ ss = []) ∧ Below (w.alloc (.cells #[.map (some b)] 128)).heap.size (w.alloc (.cells #[.map (some b)] 128)) w' := by
  have hbl := hown.lt
  have hseq : SeqGives Fence.wide 2 Tryz.prog 139 #[.pointer (some ⟨w.heap.size, 0, none⟩)] encStr (fun ss => ss.Perm (strKeys D0)) (Maps.size D0) (w.alloc (.cells #[.map (some b)] 128)) :=
    AnyZ.keys_gives (ρ := Tryz.keys113_ren) { Tryz.keys113 with } Fence.wide _ trivial rfl (by omega) w.heap.size b nn D0 _ (by simp) (by simp) (by
      obtain ⟨es, clock, hb, Ft, hs, hD⟩ := hown
      exact ⟨es, clock, (Below.heap_alloc _ _ b hbl).trans hb, Ft, hs, hD⟩)
  exact AnyZ.sorted_in Tryz.sorted112 Fence.wide 5 trivial trivial trivial trivial rfl (by omega) (Tryz.sorts112 _) (enters_of Tryz.func138 (by kernel_rfl) rfl) 139 #[.pointer (some ⟨w.heap.size, 0, none⟩)] trivial (enters_of Tryz.func139 (by kernel_rfl) rfl) _ _ hmax hbytes _ hseq

set_option maxHeartbeats 1000000 in
/-- **.. AND FOR THE nil MAP: nil.** -/
theorem Tryz.slices_Sorted_keys_nil_112_113 (w : World) :
    CallsIn Fence.wide 5 Tryz.prog 112 #[.func (.func 139) #[] #[.pointer (some ⟨w.heap.size, 0, none⟩)]] (w.alloc (.cells #[.map none] 128)) fun e w' => ∃ (v : Value) (ss : List (List UInt8)), e = .returned v ∧ ss = [] ∧
      w'.ownsRow (w.alloc (.cells #[.map none] 128)).heap.size 9 1 v ss.length ((ss.mergeSort (fun x y => decide (x ≤ y))).map encStr) ∧ (v = .slice none 0 0 ↔ ss = []) ∧ Below (w.alloc (.cells #[.map none] 128)).heap.size (w.alloc (.cells #[.map none] 128)) w' := by
  have hseq : SeqGives Fence.wide 2 Tryz.prog 139 #[.pointer (some ⟨w.heap.size, 0, none⟩)] encStr (fun ss : List (List UInt8) => ss = []) 0 (w.alloc (.cells #[.map none] 128)) :=
    AnyZ.keys_gives_nil (ρ := Tryz.keys113_ren) { Tryz.keys113 with } Fence.wide _ trivial rfl w.heap.size _ (by simp) (by simp)
  exact AnyZ.sorted_in Tryz.sorted112 Fence.wide 5 trivial trivial trivial trivial rfl (by omega) (Tryz.sorts112 _) (enters_of Tryz.func138 (by kernel_rfl) rfl) 139 #[.pointer (some ⟨w.heap.size, 0, none⟩)] trivial (enters_of Tryz.func139 (by kernel_rfl) rfl) _ 0 (Nat.zero_le _) (by omega) _ hseq

-- THE CALLER's WALK over 'slices.Sorted(maps.Keys(m))' (inside '(callsIn_wide (n := 6)).1'; 'have hfK : Fence.wide.fn 113 := trivial', 'have hfS : Fence.wide.fn 112 := trivial' ahead): THE TWO ARMS TO PASTE:
--   gi_wp2_with (first
--     | (gi_at_call 113; refine (Tryz.maps_Keys_113 _ _).mono ?_; rintro e w' ⟨rfl, rfl⟩)
--     | (gi_at_call 112; refine (Tryz.slices_Sorted_keys_112_113 b nn D0 R w hown hmax hbytes).mono ?_; rintro e w' ⟨v, ss, rfl, hS, hrow, hnil, hb⟩))



end Go.Proofs
