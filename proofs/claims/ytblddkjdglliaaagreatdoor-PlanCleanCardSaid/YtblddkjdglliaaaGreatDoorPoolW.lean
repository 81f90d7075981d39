/- Contracts of package pool: Drive, Len, usable, burn, Cap of a pool's drive, each, find. Conditions: a pool that lies as IsPool says. -/
import Derived.Test.YtblddkjdglliaaaGreatDoorPool
namespace Go.Proofs.YtblddkjdglliaaaGreatDoor
open Go.RowKit

/-- The pointer that Drive gives. -/
def Lay.at_ (L : Lay) (n : Int) : Value := if 0 ≤ n then match L.ds[n.toNat]? with | some x => dptr x.1 | none => .pointer none else .pointer none
theorem Lay.at_neg (L : Lay) {n : Int} (h : n < 0) : L.at_ n = .pointer none := by unfold Lay.at_; rw [if_neg (by omega)]
theorem Lay.at_some {L : Lay} {i : Nat} {x : Nat × Value × Value} (h : L.ds[i]? = some x) : L.at_ i = dptr x.1 := by unfold Lay.at_; rw [if_pos (by omega), Int.toNat_natCast, h]
theorem Lay.at_none {L : Lay} {n : Int} (h : (L.ds.length : Int) ≤ n) : L.at_ n = .pointer none := by
  unfold Lay.at_
  rw [if_pos (by omega), List.getElem?_eq_none (by omega)]

set_option maxHeartbeats 400000 in
theorem pdrive_any (p : Nat) (L : Lay) (m : PoolM) (n : Int) (w : World) (h : IsPool w p L m) :
    Calls Tryz.prog 39 #[pptr p, .int .i64 n] w fun e w' => e = .returned (L.at_ n) ∧ w = w' := by
  obtain ⟨A, c, hpv, hlc⟩ := own_shape h.row
  have c0 : w.cell? ⟨p, 0, none⟩ = some (.slice A m.list.length c) := by rw [cell_of_blk h.blk, hpv]; rfl
  have hlen := h.len
  have hfew := h.few
  unfold pptr
  by_cases h0 : n < 0
  · have e := L.at_neg h0
    have E := Lib.hid e
    generalize m.list.length = q at *
    clear h hpv hlen e
    go_enter Tryz.func39, Tryz.ntmps39
    go_wp2
    go_ret
    exact ⟨by rw [E.out]; rfl, rfl⟩
  · obtain ⟨i, rfl⟩ := Int.eq_ofNat_of_zero_le (by omega : 0 ≤ n)
    by_cases h1 : i < m.list.length
    · have hi : i < L.ds.length := by omega
      have e := Lay.at_some (L := L) (List.getElem?_eq_getElem hi)
      obtain ⟨g, cur, rfl, _, _, _, _, _, _, hcell⟩ := own_pos (hpv ▸ h.row) (by omega)
      have c1 : w.cell? ⟨g, i, none⟩ = some (dptr L.ds[i].1) := by rw [hcell i (by omega)]; simp [hi]
      have E := Lib.hid e
      generalize L.ds[i].1 = b at *
      unfold dptr at c1
      generalize m.list.length = q at *
      clear h hcell hpv hlen e
      go_enter Tryz.func39, Tryz.ntmps39
      go_wp2
      go_ret
      exact ⟨by rw [E.out]; rfl, rfl⟩
    · have e := Lay.at_none (L := L) (n := i) (by omega)
      have E := Lib.hid e
      generalize m.list.length = q at *
      clear h hpv hlen e
      go_enter Tryz.func39, Tryz.ntmps39
      go_wp2
      go_ret
      exact ⟨by rw [E.out]; rfl, rfl⟩

def PoolM.drive? (m : PoolM) (n : Int) : Option DriveM := if 0 ≤ n then m.list[n.toNat]? else none
/-- How many slots may be looked at. -/
def PoolM.capN (m : PoolM) (n : Int) : Nat := match m.drive? n with | some d => d.capI.toNat | none => 0
/-- What a slot of a drive holds. -/
def PoolM.slot (m : PoolM) (n : Int) (i : Nat) : List Int := match m.drive? n with | some d => d.readAt i | none => []
/-- The first number below n that will do; -1: none. -/
def firstFrom (f : Nat → Bool) : Nat → Nat → Int
  | 0, _ => -1
  | n + 1, i => if f i then (i : Int) else firstFrom f n (i + 1)
def firstI (n : Nat) (f : Nat → Bool) : Int := firstFrom f n 0
theorem firstFrom_hit {f : Nat → Bool} {k : Nat} (h : f k = true) : ∀ (n i : Nat), i ≤ k → k < i + n → (∀ j, i ≤ j → j < k → f j = false) → firstFrom f n i = k
  | 0, i, h1, h2, _ => by omega
  | n + 1, i, h1, h2, hn => by
    unfold firstFrom
    by_cases e : i = k
    · subst e; rw [if_pos h]
    · rw [if_neg (by simp [hn i (Nat.le_refl _) (by omega)])]
      exact firstFrom_hit h n (i + 1) (by omega) (by omega) fun j h3 h4 => hn j (by omega) h4
theorem firstFrom_none {f : Nat → Bool} : ∀ (n i : Nat), (∀ j, i ≤ j → j < i + n → f j = false) → firstFrom f n i = -1
  | 0, _, _ => rfl
  | n + 1, i, hn => by
    unfold firstFrom
    rw [if_neg (by simp [hn i (Nat.le_refl _) (by omega)])]
    exact firstFrom_none n (i + 1) fun j h3 h4 => hn j (by omega) (by omega)
theorem firstI_hit {n k : Nat} {f : Nat → Bool} (hk : k < n) (h : f k = true) (hn : ∀ i, i < k → f i = false) : firstI n f = k :=
  firstFrom_hit h n 0 (Nat.zero_le _) (by omega) fun j _ hj => hn j hj
theorem firstI_none {n : Nat} {f : Nat → Bool} (hn : ∀ i, i < n → f i = false) : firstI n f = -1 :=
  firstFrom_none n 0 fun j _ hj => hn j (by omega)
theorem firstFrom_cases (f : Nat → Bool) : ∀ (n i : Nat), (firstFrom f n i = -1 ∧ ∀ j, i ≤ j → j < i + n → f j = false) ∨ ∃ k, i ≤ k ∧ k < i + n ∧ firstFrom f n i = (k : Nat) ∧ f k = true ∧ ∀ j, i ≤ j → j < k → f j = false
  | 0, i => .inl ⟨rfl, fun j h1 h2 => by omega⟩
  | n + 1, i => by
    by_cases h : f i = true
    · exact .inr ⟨i, Nat.le_refl _, by omega, by unfold firstFrom; rw [if_pos h], h, fun j h1 h2 => by omega⟩
    · have h' : f i = false := by simpa using h
      have e : firstFrom f (n + 1) i = firstFrom f n (i + 1) := by rw [firstFrom, if_neg h]
      rcases firstFrom_cases f n (i + 1) with ⟨h1, h2⟩ | ⟨k, h1, h2, h3, h4, h5⟩
      · refine .inl ⟨by rw [e, h1], fun j h3 h4 => ?_⟩
        by_cases e2 : j = i
        · rw [e2]; exact h'
        · exact h2 j (by omega) (by omega)
      · refine .inr ⟨k, by omega, by omega, by rw [e, h3], h4, fun j h6 h7 => ?_⟩
        by_cases e2 : j = i
        · rw [e2]; exact h'
        · exact h5 j (by omega) h7
theorem firstI_cases (n : Nat) (f : Nat → Bool) : (firstI n f = -1 ∧ ∀ j, j < n → f j = false) ∨ ∃ k, k < n ∧ firstI n f = (k : Nat) ∧ f k = true ∧ ∀ j, j < k → f j = false := by
  rcases firstFrom_cases f n 0 with ⟨h1, h2⟩ | ⟨k, _, h2, h3, h4, h5⟩
  · exact .inl ⟨h1, fun j hj => h2 j (Nat.zero_le _) (by omega)⟩
  · exact .inr ⟨k, by omega, h3, h4, fun j hj => h5 j (Nat.zero_le _) hj⟩
theorem IsPool.at_cases {w : World} {p : Nat} {L : Lay} {m : PoolM} (h : IsPool w p L m) (n : Int) :
    (m.drive? n = none ∧ L.at_ n = .pointer none) ∨ ∃ i x d, n = (i : Nat) ∧ i < m.list.length ∧ L.ds[i]? = some x ∧ m.list[i]? = some d ∧ m.drive? n = some d ∧ L.at_ n = dptr x.1 ∧ IsDrive w x.1 x.2.1 x.2.2 d := by
  by_cases h0 : n < 0
  · exact .inl ⟨by unfold PoolM.drive?; rw [if_neg (by omega)], L.at_neg h0⟩
  · obtain ⟨i, rfl⟩ := Int.eq_ofNat_of_zero_le (by omega : 0 ≤ n)
    by_cases h1 : i < m.list.length
    · have hi : i < L.ds.length := by rw [h.len]; exact h1
      refine .inr ⟨i, L.ds[i], m.list[i], rfl, h1, List.getElem?_eq_getElem hi, List.getElem?_eq_getElem h1, ?_, Lay.at_some (List.getElem?_eq_getElem hi), h.drives i _ _ (List.getElem?_eq_getElem hi) (List.getElem?_eq_getElem h1)⟩
      unfold PoolM.drive?
      rw [if_pos (by omega), Int.toNat_natCast, List.getElem?_eq_getElem h1]
    · refine .inl ⟨?_, Lay.at_none (by have := h.len; omega)⟩
      unfold PoolM.drive?
      rw [if_pos (by omega), Int.toNat_natCast, List.getElem?_eq_none (by omega)]
theorem lost_at {w : World} {p : Nat} {L : Lay} {m : PoolM} (h : IsPool w p L m) (n : Int) :
    Calls Tryz.prog 98 #[L.at_ n] w fun e w' => e = .returned (.bool (match m.drive? n with | some d => d.lost | none => false)) ∧ w = w' := by
  rcases h.at_cases n with ⟨e1, e2⟩ | ⟨i, x, d, _, _, _, _, e1, e2, hd⟩
  · rw [e1, e2]; exact lost_nil w
  · rw [e1, e2]; exact lost_any _ _ _ _ _ hd
theorem capI_nonneg (d : DriveM) : 0 ≤ d.capI := by unfold DriveM.capI; split <;> omega
theorem cap_at {w : World} {p : Nat} {L : Lay} {m : PoolM} (h : IsPool w p L m) (n : Int) :
    Calls Tryz.prog 55 #[L.at_ n] w fun e w' => e = .returned (.int .i64 (m.capN n)) ∧ w = w' := by
  rcases h.at_cases n with ⟨e1, e2⟩ | ⟨i, x, d, _, _, _, _, e1, e2, hd⟩
  · unfold PoolM.capN
    rw [e1, e2]; exact cap_nil w
  · unfold PoolM.capN
    rw [e1, e2]
    simp only
    rw [Int.toNat_of_nonneg (capI_nonneg d)]
    exact cap_any _ _ _ _ _ hd
theorem cap_le {w : World} {p : Nat} {L : Lay} {m : PoolM} (h : IsPool w p L m) (n : Int) : m.capN n ≤ 128 := by
  unfold PoolM.capN
  rcases h.at_cases n with ⟨e1, e2⟩ | ⟨i, x, d, _, _, _, _, e1, e2, hd⟩
  · rw [e1]; simp
  · rw [e1]
    have := hd.cap
    simp only [DriveM.capI]
    split
    · simp
    · simp; omega
theorem read_at {w : World} {p : Nat} {L : Lay} {m : PoolM} (h : IsPool w p L m) (n : Int) (k : Nat) (hk : k < m.capN n) :
    Calls Tryz.prog 63 #[L.at_ n, .int .i64 k] w fun e w' => ∃ v', e = .returned (.tuple #[v', .int .i64 0]) ∧ HB w' v' (m.slot n k) ∧ Below w.heap.size w w' := by
  rcases h.at_cases n with ⟨e1, e2⟩ | ⟨i, x, d, _, _, _, _, e1, e2, hd⟩
  · unfold PoolM.capN at hk
    rw [e1] at hk; simp at hk
  · have hc : d.check k = 0 := by
      unfold PoolM.capN at hk
      rw [e1] at hk
      simp only [DriveM.capI] at hk
      unfold DriveM.check
      cases hl : d.lost <;> simp [hl] at hk ⊢
      omega
    have := dread_any x.1 x.2.1 x.2.2 d k w hd
    rw [hc] at this
    unfold PoolM.slot
    rw [e1, e2]
    exact this

set_option maxRecDepth 100000 in
set_option maxHeartbeats 1000000 in
/-- each: the first slot at which the function says yes; what holds between its calls (J) holds behind. -/
theorem each_any (p : Nat) (L : Lay) (m : PoolM) (n : Int) (fid : Nat) (caps : Array Value) (w : World) (hP : IsPool w p L m)
    (hfun : ∀ A W, Sem.run Tryz.prog (callFunc fid A) W = .ok (Next.enter fid A) W) (pr : List Int → Bool) (J : Nat → World → Prop)
    (h0 : J 0 w) (hJb : ∀ k W W', J k W → Below W.heap.size W W' → J k W') (hJP : ∀ k W, J k W → IsPool W p L m)
    (hw : ∀ k W v, k < m.capN n → J k W → HB W v (openB (m.slot n k)) → Calls Tryz.prog fid (#[.int .i64 (openS (m.slot n k)), .int .i64 (openP (m.slot n k)), v, .bool (openOk (m.slot n k))] ++ caps) W fun e W' => e = .returned (.bool (pr (m.slot n k))) ∧ J (k + 1) W') :
    Calls Tryz.prog 58 #[pptr p, .int .i64 n, .func (.func fid) #[] caps] w fun e w' => e = .returned (.int .i64 (firstI (m.capN n) fun i => pr (m.slot n i))) ∧ ∃ k, k ≤ m.capN n ∧ J k w' ∧ (firstI (m.capN n) (fun i => pr (m.slot n i)) = -1 → k = m.capN n) := by
  have DR := pdrive_any p L m n w hP
  have CP := cap_at hP n
  have hle := cap_le hP n
  obtain ⟨f, hf⟩ : ∃ f : Nat → Bool, f = fun i => pr (m.slot n i) := ⟨_, rfl⟩
  have RD : ∀ k W, k < m.capN n → J k W → Calls Tryz.prog 63 #[L.at_ n, .int .i64 k] W fun e w' => ∃ v', e = .returned (.tuple #[v', .int .i64 0]) ∧ HB w' v' (m.slot n k) ∧ Below W.heap.size W w' :=
    fun k W hk hj => read_at (hJP k W hj) n k hk
  have HFl := Lib.hid hf
  rw [← hf]
  have RD := Lib.hid RD
  have HW := Lib.hid hw
  have HJ := Lib.hid hJb
  generalize L.at_ n = dv at *
  obtain ⟨N, hN⟩ : ∃ N, m.capN n = N := ⟨_, rfl⟩
  rw [hN] at CP hle ⊢
  have HN := Lib.hid hN
  clear hP hf hJP hw hJb hN
  unfold pptr at *
  go_enter Tryz.func58, Tryz.ntmps58
  go_wp2_with fail
  refine DR.mono ?_
  rintro e w' ⟨rfl, rfl⟩
  go_wp2_with fail
  refine CP.mono ?_
  rintro e w' ⟨rfl, rfl⟩
  go_wp2_with fail
  go_loopw [16] (fun i wr => ∃ k : Nat, k ≤ N ∧ i = .int .i64 k ∧ J k wr ∧ ∀ j, j < k → f j = false) (fun i _ => N - (intOf i).toNat)
  case atStart => exact ⟨0, by omega, rfl, h0, fun j hj => by omega⟩
  case round =>
    obtain ⟨k, hk, rfl, hj, hn⟩ := hrel
    have HNO := Lib.hid hn
    clear hn
    by_cases hlt : k < N
    · go_wp2_with fail
      refine (RD.out k _ (by rw [HN.out]; exact hlt) hj).mono ?_
      rintro e w1 ⟨v1, rfl, hv1, hB1⟩
      have hj1 := HJ.out _ _ _ hj hB1
      go_wp2_with fail
      refine (open_any _ _ _ hv1).mono ?_
      rintro e w2 ⟨v2, rfl, hv2, hB2⟩
      have hj2 := HJ.out _ _ _ hj1 hB2
      clear hj hj1
      have hfk : f k = pr (m.slot n k) := by rw [HFl.out]
      have HW2 := HW.out k w2 v2 (by rw [HN.out]; exact hlt) hj2 hv2
      rw [← hfk] at HW2
      clear hfk
      generalize openS (m.slot n k) = q1 at *
      generalize openP (m.slot n k) = q2 at *
      generalize openOk (m.slot n k) = q3 at *
      go_wp2_with fail
      refine HW2.mono ?_
      rintro e w3 ⟨rfl, hj3⟩
      by_cases hb : f k = true
      · rw [hb]
        have hfi := firstI_hit hlt hb HNO.out
        have HFI := Lib.hid hfi
        clear hb hfi
        go_wp2
        go_ret
        exact ⟨by rw [HFI.out]; rfl, k + 1, by omega, hj3, fun e => by rw [HFI.out] at e; omega⟩
      · have hb' : f k = false := by simpa using hb
        rw [hb']
        have HB' := Lib.hid hb'
        clear hb hb'
        go_wp2
        go_roundw
        case rel => exact ⟨k + 1, by omega, by go_num, hj3, fun j hj => by rcases Nat.lt_or_ge j k with h | h; exact HNO.out j h; rw [show j = k from by omega]; exact HB'.out⟩
        case measure => simp [intOf]; omega
    · have hk' : k = N := by omega
      subst hk'
      have hfi := firstI_none HNO.out
      have HFI := Lib.hid hfi
      clear hfi
      go_wp2
      go_ret
      exact ⟨by rw [HFI.out]; rfl, k, Nat.le_refl _, hj, fun _ => rfl⟩

theorem Tryz.funFind : ∀ A W, Sem.run Tryz.prog (callFunc 99 A) W = .ok (Next.enter 99 A) W := by intro A W; kernel_rfl
theorem Tryz.funStore : ∀ A W, Sem.run Tryz.prog (callFunc 59 A) W = .ok (Next.enter 59 A) W := by intro A W; kernel_rfl
theorem Tryz.funHeld : ∀ A W, Sem.run Tryz.prog (callFunc 62 A) W = .ok (Next.enter 62 A) W := by intro A W; kernel_rfl

/-- '==' of two arrays of two ints. -/
theorem eq2_any (a b c e : Int) (w : World) : Sem.run Tryz.prog (Op.equalIn 10000 80 (.agg #[.int .i64 a, .int .i64 b]) (.agg #[.int .i64 c, .int .i64 e])) w = .ok (a == c && b == e) w := by
  have h3 : ∀ d x y (w : World), Sem.run Tryz.prog (Op.equalIn (d + 1) 3 (.int .i64 x) (.int .i64 y)) w = .ok (x == y) w := fun d x y w => run_equalIn_int w d 3 .i64 _ x y Tryz.underlying3
  obtain ⟨d, hd⟩ : ∃ d, 10000 = d + 1 + 1 := ⟨9998, rfl⟩
  rw [hd]
  clear hd
  rw [Op.equalIn]
  simp only [Sem.run_bind, run_underlying Tryz.underlying80, Result.andThen_ok, Tryz.sizeOf3, Std.Legacy.Range.forIn_eq_forIn_range', Std.Legacy.Range.size]
  simp only [Nat.sub_zero, Nat.reduceAdd, Nat.reduceSub, Nat.div_one, List.range'_succ, List.range'_zero, List.forIn_cons, List.forIn_nil]
  cases h1 : (a == c) <;> cases h2 : (b == e) <;> simp [part, h3, h1, h2, Tryz.isAgg3, Tryz.sizeOf3]
set_option maxRecDepth 100000 in
set_option maxHeartbeats 400000 in
theorem find_cl (s k st ps : Int) (ok : Bool) (v : Value) (b1 b2 : Nat) (w : World) (c1 : w.cell? ⟨b1, 0, none⟩ = some (.int .i64 st)) (c2 : w.cell? ⟨b2, 0, none⟩ = some (.int .i64 ps)) :
    Calls Tryz.prog 99 #[.int .i64 s, .int .i64 k, v, .bool ok, .pointer (some ⟨b1, 0, none⟩), .pointer (some ⟨b2, 0, none⟩)] w fun e w' => e = .returned (.bool (ok && (decide (s = st) && decide (k = ps)))) ∧ w = w' := by
  cases ok
  · go_enter Tryz.func99, Tryz.ntmps99
    go_wp2
    go_ret
    exact ⟨rfl, rfl⟩
  · have he := fun w => eq2_any s k st ps w
    go_enter Tryz.func99, Tryz.ntmps99
    go_wp2
    go_ret
    exact ⟨by simp [Bool.beq_eq_decide_eq], rfl⟩
set_option maxHeartbeats 400000 in
theorem store_cl (s k : Int) (ok : Bool) (v : Value) (w : World) :
    Calls Tryz.prog 59 #[.int .i64 s, .int .i64 k, v, .bool ok] w fun e w' => e = .returned (.bool (!ok)) ∧ w = w' := by
  go_enter Tryz.func59, Tryz.ntmps59
  go_wp2
  go_ret
  exact ⟨rfl, rfl⟩

def isAt (st ps : Int) (bs : List Int) : Bool := openOk bs && (decide (openS bs = st) && decide (openP bs = ps))
def PoolM.find (m : PoolM) (n st ps : Int) : Int := firstI (m.capN n) fun i => isAt st ps (m.slot n i)
def PoolM.free (m : PoolM) (n : Int) : Int := firstI (m.capN n) fun i => !openOk (m.slot n i)
def PoolM.usable (m : PoolM) (n : Int) : Int := match m.drive? n with | none => 1 | some d => if d.lost then 8 else 0

set_option maxRecDepth 100000 in
set_option maxHeartbeats 400000 in
theorem find_any (p : Nat) (L : Lay) (m : PoolM) (n st ps : Int) (w : World) (h : IsPool w p L m) :
    Calls Tryz.prog 57 #[pptr p, .int .i64 n, .int .i64 st, .int .i64 ps] w fun e w' => e = .returned (.int .i64 (m.find n st ps)) ∧ Below w.heap.size w w' := by
  obtain ⟨W, hW⟩ : ∃ W, W = (w.alloc (.cells #[.int .i64 st] 3)).alloc (.cells #[.int .i64 ps] 3) := ⟨_, rfl⟩
  have hBW : Below w.heap.size w W := by rw [hW]; exact ((Below.refl _ _).alloc (Nat.le_refl _) _).alloc (by simp) _
  have b1 : W.heap[w.heap.size]? = some (.cells #[.int .i64 st] 3 (0, 0)) := by rw [hW]; exact blk_alloc (heap_alloc_new w _) _
  have b2 : W.heap[w.heap.size + 1]? = some (.cells #[.int .i64 ps] 3 (0, 0)) := by
    rw [hW]; have := heap_alloc_new (w.alloc (.cells #[.int .i64 st] 3)) (.cells #[.int .i64 ps] 3); rw [World.size_alloc] at this; exact this
  have EA := each_any p L m n 99 #[.pointer (some ⟨w.heap.size, 0, none⟩), .pointer (some ⟨w.heap.size + 1, 0, none⟩)] W (h.below hBW) Tryz.funFind (isAt st ps) (fun _ W' => Below W.heap.size W W')
    (Below.refl _ _) (fun _ W1 W2 h1 h2 => h1.trans (h2.mono h1.size)) (fun _ W1 h1 => (h.below hBW).below h1) ?_
  · rw [hW] at EA
    go_enter Tryz.func57, Tryz.ntmps57
    go_wp2_with fail
    refine EA.mono ?_
    rintro e w1 ⟨rfl, k, _, hB, _⟩
    rw [← hW] at hB
    go_wp2
    go_ret
    exact ⟨rfl, hBW.trans (hB.mono hBW.size)⟩
  · intro k W1 v _ hB _
    have c1 : W1.cell? ⟨w.heap.size, 0, none⟩ = some (.int .i64 st) := by rw [cell_of_blk (below_blk hB b1)]; rfl
    have c2 : W1.cell? ⟨w.heap.size + 1, 0, none⟩ = some (.int .i64 ps) := by rw [cell_of_blk (below_blk hB b2)]; rfl
    refine (find_cl (openS (m.slot n k)) (openP (m.slot n k)) st ps (openOk (m.slot n k)) v _ _ W1 c1 c2).mono ?_
    rintro e w' ⟨rfl, rfl⟩
    exact ⟨rfl, hB⟩

set_option maxRecDepth 100000 in
set_option maxHeartbeats 400000 in
theorem usable_any (p : Nat) (L : Lay) (m : PoolM) (n : Int) (w : World) (h : IsPool w p L m) :
    Calls Tryz.prog 56 #[pptr p, .int .i64 n] w fun e w' => e = .returned (.int .i64 (m.usable n)) ∧ w = w' := by
  have DR := pdrive_any p L m n w h
  have LO := lost_at h n
  unfold PoolM.usable
  rcases h.at_cases n with ⟨e1, e2⟩ | ⟨i, x, d, q1, q2, q3, q4, e1, e2, hd⟩
  · rw [e2] at DR LO
    rw [e1] at LO ⊢
    unfold pptr at *
    clear h e1 e2
    go_enter Tryz.func56, Tryz.ntmps56
    go_wp2_with (go_at_call 39; refine DR.mono ?_; rintro e w' ⟨rfl, rfl⟩)
    go_ret
    exact ⟨rfl, rfl⟩
  · rw [e2] at DR LO
    rw [e1] at LO ⊢
    simp only at LO ⊢
    generalize d.lost = q at *
    unfold pptr dptr at *
    generalize x.1 = b at *
    clear h hd e1 e2 q1 q2 q3 q4
    cases q
    all_goals
      go_enter Tryz.func56, Tryz.ntmps56
      go_wp2_with (first
        | (go_at_call 39; refine DR.mono ?_; rintro e w' ⟨rfl, rfl⟩)
        | (go_at_call 98; refine LO.mono ?_; rintro e w' ⟨rfl, rfl⟩))
      go_ret
      exact ⟨rfl, rfl⟩

/-- A write takes power. -/
def PoolM.burn (m : PoolM) : Bool × PoolM := if m.down || decide (m.fuse = 0) then (false, { m with down := true }) else if 0 < m.fuse then (true, { m with fuse := m.fuse - 1 }) else (true, m)
set_option maxRecDepth 100000 in
set_option maxHeartbeats 400000 in
theorem burn_any (p : Nat) (L : Lay) (m : PoolM) (w : World) (h : IsPool w p L m) :
    Calls Tryz.prog 96 #[pptr p] w fun e w' => e = .returned (.bool m.burn.1) ∧ IsPool w' p L m.burn.2 ∧ PStep p w w' L L ∧ Chg (fun k => k = p) w w' := by
  have c1 : w.cell? ⟨p, 1, none⟩ = some (.int .i64 m.fuse) := by rw [cell_of_blk h.blk]; rfl
  have c2 : w.cell? ⟨p, 2, none⟩ = some (.bool m.down) := by rw [cell_of_blk h.blk]; rfl
  have f1 := frozen_of_blk h.blk 1
  have f2 := frozen_of_blk h.blk 2
  have hfr := h.fuseR
  have hset1 : ∀ f : Int, -1 ≤ f ∧ f ≤ 9223372036854775807 → IsPool (w.setCell ⟨p, 1, none⟩ (.int .i64 f)) p L { m with fuse := f } ∧ PStep p w (w.setCell ⟨p, 1, none⟩ (.int .i64 f)) L L :=
    fun f hf => h.set_head (f := f) (d := m.down) ((Chg.refl (fun k => k = p) w).then_setCell (a := ⟨p, 1, none⟩) (.inl rfl) _) (blk_setCell h.blk 1 _) hf
  have hset2 : IsPool (w.setCell ⟨p, 2, none⟩ (.bool true)) p L { m with down := true } ∧ PStep p w (w.setCell ⟨p, 2, none⟩ (.bool true)) L L :=
    h.set_head (f := m.fuse) (d := true) ((Chg.refl (fun k => k = p) w).then_setCell (a := ⟨p, 2, none⟩) (.inl rfl) _) (blk_setCell h.blk 2 _) hfr
  have hch1 : ∀ f : Int, Chg (fun k => k = p) w (w.setCell ⟨p, 1, none⟩ (.int .i64 f)) := fun f => (Chg.refl (fun k => k = p) w).then_setCell (a := ⟨p, 1, none⟩) (.inl rfl) _
  have hch2 : Chg (fun k => k = p) w (w.setCell ⟨p, 2, none⟩ (.bool true)) := (Chg.refl (fun k => k = p) w).then_setCell (a := ⟨p, 2, none⟩) (.inl rfl) _
  have H := Lib.hid h
  have S1 := Lib.hid hset1
  have S2 := Lib.hid hset2
  have C1 := Lib.hid hch1
  have C2 := Lib.hid hch2
  clear h hset1 hset2 hch1 hch2
  obtain ⟨ml, fuse, down⟩ := m
  simp only at c1 c2 hfr
  unfold pptr PoolM.burn
  simp only
  cases down
  · by_cases h0 : fuse = 0
    · subst h0
      go_enter Tryz.func96, Tryz.ntmps96
      go_wp2
      go_ret
      exact ⟨by simp, by simpa using S2.out.1, S2.out.2, C2.out⟩
    · have hb : (fuse == 0) = false := by simpa using h0
      by_cases h1 : 0 < fuse
      · go_enter Tryz.func96, Tryz.ntmps96
        go_wp2
        go_ret
        refine ⟨by simp [h0, h1], ?_, (S1.out _ (by omega)).2, C1.out _⟩
        have := (S1.out (fuse - 1) (by omega)).1
        simpa [h0, h1] using this
      · go_enter Tryz.func96, Tryz.ntmps96
        go_wp2
        go_ret
        refine ⟨by simp [h0, h1], ?_, PStep.of_below (Below.refl _ _), Chg.refl _ _⟩
        have := H.out
        simpa [h0, h1] using this
  · go_enter Tryz.func96, Tryz.ntmps96
    go_wp2
    go_ret
    exact ⟨by simp, by simpa using S2.out.1, S2.out.2, C2.out⟩
end Go.Proofs.YtblddkjdglliaaaGreatDoor
