/- A put that is alone, whole: what the memory is behind it. Plain law, no condition. quietuslaw09: Awake. No condition. quietuslaw09, plain laws: nodes laid from the chain's end on; what a walk along them comes to. No condition. -/
import Derived.Test.YtcgfknpobifecaaGreatDtm
import Derived.Test.YtcgfknpobifecaaGreatWkm
import Derived.Test.YtcgfknpobifecaaGreatLa02m
import Derived.Test.YtcgfknpobifecaaGreatRkm
namespace Go.Proofs.YtcgfknpobifecaaGreat
open Go.RowKit

/-- The memory behind a put that has taken place i. -/
def putDone (m : MemS) (c : Int) (nd : Nd) (ws : WalkS) (i : Nat) : MemS :=
  let m1 := { m with ss := m.ss.set i (taken (m.ss.getD i slot0) nd) }
  let m2 := if ws.found = true ∧ ws.prev ≠ 0 then linkM m1 ws.prev (hnd m.ss i) else storeAt m1 c (hnd m.ss i)
  if ws.found then { m2 with waiting := m2.waiting ++ [ws.at_] } else m2
theorem lock_back {locks : List Int} {i : Nat} (k : Int) (h : locks.getD i 0 = -1) : (locks.set i k).set i (-1) = locks := by
  rw [List.set_set]
  apply List.ext_getElem
  · simp
  · intro j h1 h2
    by_cases hij : i = j
    · subst hij
      rw [List.getElem_set_self]
      rw [List.getD_eq_getElem?_getD, List.getElem?_eq_getElem h2] at h
      exact h.symm
    · rw [List.getElem_set_ne hij]
theorem unlock_lock {m : MemS} {lk : Int} {k : Nat} (hl : m.locks.getD lk.toNat 0 = -1) : unlockM (lockMem m lk k) lk k = m := by
  have hlt : lk.toNat < m.locks.length := by
    rcases Nat.lt_or_ge lk.toNat m.locks.length with h | h
    · exact h
    · rw [List.getD_eq_getElem?_getD, List.getElem?_eq_none h] at hl; cases hl
  have e : (lockMem m lk k).locks.getD lk.toNat 0 = k := by simp [lockMem, List.getD_eq_getElem?_getD, hlt]
  rw [unlockM, if_pos e]
  show ({ m with locks := (m.locks.set lk.toNat (k : Int)).set lk.toNat (-1) } : MemS) = m
  rw [lock_back _ hl]
theorem storeAt_lock (M : MemS) (c v lk : Int) (k : Nat) : storeAt (lockMem M lk k) c v = lockMem (storeAt M c v) lk k := by
  unfold storeAt lockMem
  by_cases h : 0 ≤ c ∧ c < M.cells.length
  · rw [if_pos h, if_pos h]
  · rw [if_neg h, if_neg h]
theorem putDone_lock {m : MemS} {lk : Int} {k : Nat} (c : Int) (nd : Nd) (ws : WalkS) (i : Nat) : putDone (lockMem m lk k) c nd ws i = lockMem (putDone m c nd ws i) lk k := by
  unfold putDone
  dsimp only
  by_cases h1 : ws.found = true ∧ ws.prev ≠ 0
  · rw [if_pos h1, if_pos h1]
    by_cases h2 : ws.found = true
    · rw [if_pos h2, if_pos h2]; rfl
    · exact absurd h1.1 h2
  · rw [if_neg h1, if_neg h1]
    have e := storeAt_lock { m with ss := m.ss.set i (taken (m.ss.getD i slot0) nd) } c (hnd m.ss i) lk k
    generalize hM : storeAt { m with ss := m.ss.set i (taken (m.ss.getD i slot0) nd) } c (hnd m.ss i) = M at *
    have e2 : storeAt { lockMem m lk k with ss := (lockMem m lk k).ss.set i (taken ((lockMem m lk k).ss.getD i slot0) nd) } c (hnd (lockMem m lk k).ss i) = lockMem M lk k := e
    rw [e2]
    by_cases h2 : ws.found = true
    · rw [if_pos h2, if_pos h2]; rfl
    · rw [if_neg h2, if_neg h2]
theorem putDone_locks {m : MemS} (c : Int) (nd : Nd) (ws : WalkS) (i : Nat) : (putDone m c nd ws i).locks = m.locks := by
  unfold putDone
  dsimp only
  split <;> split <;> first | rfl | (unfold storeAt; split <;> rfl)
theorem fr_one {m m' : MemS} {s s' : PutS} (hh : s.held = true) (h : putStep m s = (m', s', false)) : GoN (frReady putReady) (frStep putStep) 1 (m, s) (m', s') := by
  refine ⟨by simp [frReady, putReady, hh], by show (putStep m s).2.2 = false; rw [h], ?_⟩
  show ((putStep m s).1, (putStep m s).2.1) = (m', s')
  rw [h]
theorem fr_end {m m' : MemS} {s s' : PutS} (hh : s.held = true) (h : putStep m s = (m', s', true)) (f n : Nat) : finM (frReady putReady) (frStep putStep) (f + 1) n (m, s) = (n + 1, true, m', s') := by
  rw [finM_end (by simp [frReady, putReady, hh]) (by show (putStep m s).2.2 = true; rw [h])]
  show (_, _, (putStep m s).1, (putStep m s).2.1) = _
  rw [h]
section
variable {m : MemS} {k : Nat} {key val : ByteArray} {d : Int × Int} {xs : List Int} {c : Int}
theorem put_full {M : MemS} {ws : WalkS} {hd : HoldS} {cell mine err : Int} (hf : freeAt M.ss = none) (hdn : hd.done = true) :
    ∃ s', (∀ f n, finM (frReady putReady) (frStep putStep) (f + 2) n (M, ⟨key, val, 2, hd, true, cell, some ws, mine, err⟩) = (n + 2, true, unlockM M hd.lock hd.worker, s')) ∧ s'.mine = 0 ∧ s'.err = 4 ∧ wFound s' = ws.found := by
  have e1 : putStep M ⟨key, val, 2, hd, true, cell, some ws, mine, err⟩ = (M, ⟨key, val, 5, hd, true, cell, some ws, 0, 4⟩, false) := by simp [putStep, hf]
  have e2 : putStep M ⟨key, val, 5, hd, true, cell, some ws, 0, 4⟩ = (unlockM M hd.lock hd.worker, ⟨key, val, 5, { hd with done := false }, true, cell, some ws, 0, 4⟩, true) := by simp [putStep, holdDrop, hdn]
  refine ⟨⟨key, val, 5, { hd with done := false }, true, cell, some ws, 0, 4⟩, fun f n => ?_, rfl, rfl, rfl⟩
  rw [show f + 2 = f + 1 + 1 by omega, finM_go (fr_one rfl e1) (f + 1) n, fr_end rfl e2]
theorem put_ok {M : MemS} {ws : WalkS} {hd : HoldS} {cell mine err : Int} {i : Nat} (hf : freeAt M.ss = some i) (hdn : hd.done = true) :
    ∃ s' j, j ≤ 4 ∧ (∀ f n, finM (frReady putReady) (frStep putStep) (f + j) n (M, ⟨key, val, 2, hd, true, cell, some ws, mine, err⟩) = (n + j, true, unlockM (putDone M cell ⟨key, val, sumOf key, if ws.found then ws.node.next else ws.first⟩ ws i) hd.lock hd.worker, s')) ∧ s'.mine = 0 ∧ s'.err = 0 ∧ wFound s' = ws.found := by
  have e1 : putStep M ⟨key, val, 2, hd, true, cell, some ws, mine, err⟩ = ({ M with ss := M.ss.set i (taken (M.ss.getD i slot0) ⟨key, val, sumOf key, if ws.found then ws.node.next else ws.first⟩) }, ⟨key, val, 3, hd, true, cell, some ws, hnd M.ss i, 0⟩, false) := by
    simp [putStep, hf, putNd, wNext]
  have e3 : ∀ (M : MemS) (x : Int), putStep M ⟨key, val, 5, hd, true, cell, some ws, x, 0⟩ = (unlockM M hd.lock hd.worker, ⟨key, val, 5, { hd with done := false }, true, cell, some ws, x, 0⟩, true) := fun M x => by simp [putStep, holdDrop, hdn]
  by_cases hfo : ws.found = true
  · have e2 : ∀ (M : MemS) (x : Int), putStep M ⟨key, val, 3, hd, true, cell, some ws, x, 0⟩ = (if ws.found = true ∧ ws.prev ≠ 0 then linkM M ws.prev x else storeAt M cell x, ⟨key, val, 4, hd, true, cell, some ws, ws.at_, 0⟩, false) := fun M x => by
      simp [putStep, wFound, wPrev, wAt, hfo]
    have e4 : ∀ (M : MemS) (x : Int), putStep M ⟨key, val, 4, hd, true, cell, some ws, x, 0⟩ = ({ M with waiting := M.waiting ++ [x] }, ⟨key, val, 5, hd, true, cell, some ws, 0, 0⟩, false) := fun M x => by simp [putStep]
    refine ⟨⟨key, val, 5, { hd with done := false }, true, cell, some ws, 0, 0⟩, 4, Nat.le_refl _, fun f n => ?_, rfl, rfl, rfl⟩
    rw [show f + 4 = f + 3 + 1 by omega, finM_go (fr_one rfl e1) (f + 3) n, show f + 3 = f + 2 + 1 by omega, finM_go (fr_one rfl (e2 _ _)) (f + 2), show f + 2 = f + 1 + 1 by omega, finM_go (fr_one rfl (e4 _ _)) (f + 1), fr_end rfl (e3 _ _)]
    simp [putDone, hfo]
  · have e2 : ∀ (M : MemS) (x : Int), putStep M ⟨key, val, 3, hd, true, cell, some ws, x, 0⟩ = (if ws.found = true ∧ ws.prev ≠ 0 then linkM M ws.prev x else storeAt M cell x, ⟨key, val, 5, hd, true, cell, some ws, 0, 0⟩, false) := fun M x => by
      simp [putStep, wFound, wPrev, wAt, hfo]
    refine ⟨⟨key, val, 5, { hd with done := false }, true, cell, some ws, 0, 0⟩, 3, by omega, fun f n => ?_, rfl, rfl, rfl⟩
    rw [show f + 3 = f + 2 + 1 by omega, finM_go (fr_one rfl e1) (f + 2) n, show f + 2 = f + 1 + 1 by omega, finM_go (fr_one rfl (e2 _ _)) (f + 1), fr_end rfl (e3 _ _)]
    simp [putDone, hfo]
/-- A put that is alone, from its first step to its last one. -/
theorem put_run (hd : descOf m (wrap64 (m.cells.getD 1 0)) = d) (hl : m.locks.getD (lockOf (sumOf key) d.1).toNat 0 = -1) (hc : c = d.2 + bucketOf (sumOf key) d.1) (hx : Chn m.ss (cellAt m c) xs) (hn : xs.length ≤ 100) :
    ∃ n s', finM (frReady putReady) (frStep putStep) 200 0 (m, put0 k key val) = (n, true, (match freeAt m.ss with | none => m | some i => putDone m c ⟨key, val, sumOf key, if (wScan m.ss key xs (wLook c key (cellAt m c))).found then (wScan m.ss key xs (wLook c key (cellAt m c))).node.next else (wScan m.ss key xs (wLook c key (cellAt m c))).first⟩ (wScan m.ss key xs (wLook c key (cellAt m c))) i), s') ∧
      s'.mine = 0 ∧ s'.err = (if freeAt m.ss = none then 4 else 0) ∧ wFound s' = (wScan m.ss key xs (wLook c key (cellAt m c))).found := by
  subst hc
  have h1 := put_hold (k := k) (key := key) (val := val) hd hl
  obtain ⟨j, hj, h2⟩ := put_seek (m := lockMem m (lockOf (sumOf key) d.1) k) (s := ⟨key, val, 1, heldS m k key d, true, d.2 + bucketOf (sumOf key) d.1, some (walk0 (d.2 + bucketOf (sumOf key) d.1) (sumOf key) key), 0, 0⟩) (key := key) (c := d.2 + bucketOf (sumOf key) d.1) (xs := xs) rfl rfl rfl hx
  have h3 := h1.add h2
  change GoN (frReady putReady) (frStep putStep) (3 + j) (m, put0 k key val) (lockMem m (lockOf (sumOf key) d.1) k, ⟨key, val, 2, heldS m k key d, true, d.2 + bucketOf (sumOf key) d.1, some (wScan m.ss key xs (wLook (d.2 + bucketOf (sumOf key) d.1) key (cellAt m (d.2 + bucketOf (sumOf key) d.1)))), 0, 0⟩) at h3
  generalize wScan m.ss key xs (wLook (d.2 + bucketOf (sumOf key) d.1) key (cellAt m (d.2 + bucketOf (sumOf key) d.1))) = ws at *
  cases hf : freeAt m.ss with
  | none =>
    obtain ⟨s', h4, h5, h6, h7⟩ := put_full (M := lockMem m (lockOf (sumOf key) d.1) k) (key := key) (val := val) (ws := ws) (hd := heldS m k key d) (cell := d.2 + bucketOf (sumOf key) d.1) (mine := 0) (err := 0) hf rfl
    refine ⟨0 + (3 + j) + 2, s', ?_, h5, by rw [h6]; rfl, h7⟩
    rw [show 200 = (200 - 2 - (3 + j)) + 2 + (3 + j) by omega, finM_go h3, h4]
    show (_, _, unlockM (lockMem m (lockOf (sumOf key) d.1) k) (lockOf (sumOf key) d.1) k, _) = _
    rw [unlock_lock hl]
  | some i =>
    obtain ⟨s', j2, hj2, h4, h5, h6, h7⟩ := put_ok (M := lockMem m (lockOf (sumOf key) d.1) k) (key := key) (val := val) (ws := ws) (hd := heldS m k key d) (cell := d.2 + bucketOf (sumOf key) d.1) (mine := 0) (err := 0) hf rfl
    refine ⟨0 + (3 + j) + j2, s', ?_, h5, by rw [h6]; rfl, h7⟩
    rw [show 200 = (200 - j2 - (3 + j)) + j2 + (3 + j) by omega, finM_go h3, h4]
    show (_, _, unlockM (putDone (lockMem m _ k) _ _ ws i) (lockOf (sumOf key) d.1) k, _) = _
    rw [putDone_lock, unlock_lock (by rw [putDone_locks]; exact hl)]
end
end Go.Proofs.YtcgfknpobifecaaGreat

namespace Go.Proofs.YtcgfknpobifecaaGreat
open Go.RowKit

theorem law09_run (b cb lb ab : Nat) : finM (frReady fun _ _ => true) (frStep walkStep) 5 0 (memNew b cb lb ab 1 1, walk0 3 0 ⟨#[97]⟩) =
    (1, true, (memNew b cb lb ab 1 1, { walk0 3 0 ⟨#[97]⟩ with looking := true })) := by kernel_rfl
set_option maxRecDepth 100000 in
set_option maxHeartbeats 1600000 in
theorem law09_awake (w : World) : Calls Tryz.prog 69 #[] w fun e w' => e = .returned (.bool true) ∧ Below w.heap.size w w' := by
  have hn := hide (law05_made (R.start w) 1 1 (by decide) (by decide) (by decide) (by decide))
  go_enter Tryz.func69, Tryz.ntmps69
  go_wp2_with fail
  refine hn.out.mono ?_
  rintro e w1 ⟨b, cb, lb, ab, rfl, h1⟩
  clear hn
  have hnw := hide (walk_new h1 3 0 ⟨#[97]⟩)
  clear h1
  go_wp2_with fail
  refine hnw.out.mono ?_
  rintro e w2 ⟨b2, rfl, h2⟩
  have hfin := hide (fin_R walkK h2 (t := 1) (u := 2) rfl rfl (by decide) (WalkOk.start 3 0 ⟨#[97]⟩) 5 (by decide) (law09_run b cb lb ab))
  clear hnw h2
  go_wp2_with fail
  refine hfin.out.mono ?_
  rintro e w3 ⟨rfl, h3⟩
  clear hfin
  have hf : Hid (Calls _ _ _ _ (Does _ (.tuple #[.int .u64 0, ndV nd0, .bool false]))) := hide (walk_found h3 (u := 2) rfl)
  clear h3
  go_wp2_with fail
  refine hf.out.mono ?_
  rintro e w4 ⟨rfl, h4⟩
  clear hf
  dsimp only [ndV, nd0]
  have h5 := (h4.new #[.string ⟨#[]⟩, .string ⟨#[]⟩, .int .u32 0, .int .u64 0] 103)
  replace h5 := hide h5
  clear h4
  go_wp2_with fail
  refine (law05_awake _).mono ?_
  rintro e w5 ⟨rfl, hb5⟩
  have h6 := h5.out.below hb5
  have hfi : Hid (Calls _ _ _ _ (fun e w' => e = .returned (.int .u64 0) ∧ w5 = w')) := hide (walk_first h6 (u := 2) rfl)
  have hbel := h6.done
  clear h5 h6 hb5
  go_wp2_with fail
  refine hfi.out.mono ?_
  rintro e w6 ⟨rfl, rfl⟩
  go_wp2
  go_ret
  exact ⟨rfl, hbel⟩
end Go.Proofs.YtcgfknpobifecaaGreat

namespace Go.Proofs.YtcgfknpobifecaaGreat
open Go.RowKit

structure Pr where
  key : ByteArray
  sum : Int
def pr0 : Pr := ⟨⟨#[]⟩, 0⟩
def pr09 (p : Pr) : List Value := [.string p.key, .int .u32 p.sum]
def okPr (p : Pr) : Prop := (0 ≤ p.sum ∧ p.sum ≤ 4294967295) ∧ p.key.size ≤ 140737488355328
def val09 (k : ByteArray) : ByteArray := ⟨#[118]⟩ ++ k
def ndAt (ps : List Pr) (t : Nat) : Nd := ⟨(ps.getD (ps.length - 1 - t) pr0).key, val09 (ps.getD (ps.length - 1 - t) pr0).key, (ps.getD (ps.length - 1 - t) pr0).sum, t⟩
def ssW (ps : List Pr) (room j : Nat) : List Slot := ((List.range j).map fun t => taken slot0 (ndAt ps t)) ++ List.replicate (room - j) slot0
section
variable (ps : List Pr) (room j t : Nat)
theorem ssW_len (h : j ≤ room) : (ssW ps room j).length = room := by simp [ssW]; omega
theorem ssW_old (h : t < j) : (ssW ps room j).getD t slot0 = taken slot0 (ndAt ps t) := by
  rw [ssW, List.getD_eq_getElem?_getD, List.getElem?_append_left (by simpa using h)]
  simp [h]
theorem ssW_new (h : j ≤ t) : (ssW ps room j).getD t slot0 = slot0 := by
  rw [ssW, List.getD_eq_getElem?_getD, List.getElem?_append_right (by simpa using h), List.getElem?_replicate]
  split <;> rfl
theorem ssW_free (h : j < room) : freeAt (ssW ps room j) = some j := by
  refine freeAt_is (by rw [ssW_len _ _ _ (by omega)]; exact h) (by rw [ssW_new _ _ _ _ (Nat.le_refl _)]; rfl) fun i hi => ?_
  rw [ssW_old _ _ _ _ hi]; rfl
theorem ssW_set (h : j < room) : (ssW ps room j).set j (taken slot0 (ndAt ps j)) = ssW ps room (j + 1) := by
  unfold ssW
  rw [List.set_append_right _ _ (by simp), List.length_map, List.length_range, Nat.sub_self, show room - j = (room - (j + 1)) + 1 by omega, List.replicate_succ, List.set_cons_zero, List.range_succ, List.map_append, List.append_assoc]
  rfl
theorem ssW_at (h : t < j) (hr : j ≤ room) (h2 : room ≤ 1024) : atA (ssW ps room j) ((t : Int) + 1) = t := by
  have h3 : ((t : Int) + 1) % 65536 = t + 1 := by omega
  have h4 : ((t : Int) + 1) / 65536 = 0 := by omega
  have h5 : ((t : Int) + 1).toNat - 1 = t := by omega
  rw [atA, h3, h4, h5, ssW_old _ _ _ _ h, ssW_len _ _ _ hr, if_pos ⟨by omega, by omega, rfl, rfl⟩]
  omega
theorem ssW_code (h : t < j) (hr : j ≤ room) (h2 : room ≤ 1024) : useCode (ssW ps room j) ((t : Int) + 1) = 0 ∧ readNd (ssW ps room j) ((t : Int) + 1) = ndAt ps t := by
  have := ssW_at ps room j t h hr h2
  constructor
  · rw [useCode, this, if_pos (by omega)]
  · rw [readNd, this, if_pos (by omega), Int.toNat_natCast, ssW_old _ _ _ _ h]; rfl
end

/-- Is a pair one of a sum and a key? -/
def isP (sum : Int) (key : ByteArray) (p : Pr) : Prop := p.sum = sum ∧ p.key = key
instance (sum : Int) (key : ByteArray) (p : Pr) : Decidable (isP sum key p) := by unfold isP; infer_instance
/-- The first place of a sum and a key, or -1. -/
def findI (ps : List Pr) (sum : Int) (key : ByteArray) : Int := match ps.findIdx? fun p => decide (isP sum key p) with
  | some i => (i : Int)
  | none => -1
theorem findI_at {ps : List Pr} {sum : Int} {key : ByteArray} {i : Nat} (hi : i < ps.length) (hm : isP sum key (ps.getD i pr0)) (hn : ∀ k, k < i → ¬ isP sum key (ps.getD k pr0)) : findI ps sum key = i := by
  have : ps.findIdx? (fun p => decide (isP sum key p)) = some i := by
    rw [List.findIdx?_eq_some_iff_getElem]
    refine ⟨hi, by simpa [hi] using hm, fun k hk => ?_⟩
    have := hn k hk
    have hk2 : k < ps.length := by omega
    simpa [hk2] using this
  rw [findI, this]
theorem findI_no {ps : List Pr} {sum : Int} {key : ByteArray} (hn : ∀ k, k < ps.length → ¬ isP sum key (ps.getD k pr0)) : findI ps sum key = -1 := by
  have : ps.findIdx? (fun p => decide (isP sum key p)) = none := by
    rw [List.findIdx?_eq_none_iff]
    intro x hx
    obtain ⟨k, hk, rfl⟩ := List.getElem_of_mem hx
    have := hn k hk
    simpa [hk] using this
  rw [findI, this]

section
variable {ps : List Pr} {room : Nat} {m : MemS} {sum : Int} {key : ByteArray}
/-- Where a walk that stands at place t comes to. -/
def endW (ps : List Pr) (sum : Int) (key : ByteArray) : Nat → WalkS → WalkS × Nat
  | 0, s => if isP sum key (ps.getD (ps.length - 1) pr0) then ({ s with node := ndAt ps 0, found := true, read := s.read + 1 }, 1) else ({ s with prev := 1, at_ := 0, read := s.read + 1 }, 1)
  | t + 1, s => if isP sum key (ps.getD (ps.length - 1 - (t + 1)) pr0) then ({ s with node := ndAt ps (t + 1), found := true, read := s.read + 1 }, 1)
    else let r := endW ps sum key t { s with prev := ((t + 1 : Nat) : Int) + 1, at_ := ((t + 1 : Nat) : Int), read := s.read + 1 }; (r.1, r.2 + 1)
theorem walk_fin (hm : m.ss = ssW ps room ps.length) (hr : ps.length ≤ room) (h2 : room ≤ 1024) (t : Nat) (ht : t < ps.length) (fuel n : Nat) (hf : t + 1 ≤ fuel) (s : WalkS) (hl : s.looking = true) (ha : s.at_ = (t : Int) + 1)
    (h1 : s.sum = sum) (h3 : s.key = key) (hrd : 0 ≤ s.read ∧ s.read + t + 1 ≤ 1000000) :
    finM (frReady fun _ _ => true) (frStep walkStep) fuel n (m, s) = (n + (endW ps sum key t s).2, true, (m, (endW ps sum key t s).1)) := by
  induction t generalizing fuel n s with
  | zero =>
    obtain ⟨f, rfl⟩ : ∃ f, fuel = f + 1 := ⟨fuel - 1, by omega⟩
    have hw : wrap64 (s.read + 1) = s.read + 1 := by unfold wrap64; omega
    have hc := ssW_code ps room ps.length 0 ht hr h2
    by_cases hp : isP sum key (ps.getD (ps.length - 1) pr0)
    · have e : walkStep m s = (m, { s with node := ndAt ps 0, found := true, read := s.read + 1 }, true) := by
        rw [walkStep, if_pos hl, hm, ha, if_pos hc.1]
        simp only [hc.2, hw]
        rw [if_pos ⟨hp.1.trans h1.symm, hp.2.trans h3.symm⟩]
      simp only [finM, frReady, frStep, e, endW, if_pos hp, if_true]
    · have e : walkStep m s = (m, { s with prev := 1, at_ := 0, read := s.read + 1 }, true) := by
        rw [walkStep, if_pos hl, hm, ha, if_pos hc.1]
        simp only [hc.2, hw]
        rw [if_neg (fun x => hp ⟨x.1.trans h1, x.2.trans h3⟩)]
        rfl
      simp only [finM, frReady, frStep, e, endW, if_neg hp, if_true]
  | succ t ih =>
    obtain ⟨f, rfl⟩ : ∃ f, fuel = f + 1 := ⟨fuel - 1, by omega⟩
    have hw : wrap64 (s.read + 1) = s.read + 1 := by unfold wrap64; omega
    have hc := ssW_code ps room ps.length (t + 1) ht hr h2
    by_cases hp : isP sum key (ps.getD (ps.length - 1 - (t + 1)) pr0)
    · have e : walkStep m s = (m, { s with node := ndAt ps (t + 1), found := true, read := s.read + 1 }, true) := by
        rw [walkStep, if_pos hl, hm, ha, if_pos hc.1]
        simp only [hc.2, hw]
        rw [if_pos ⟨hp.1.trans h1.symm, hp.2.trans h3.symm⟩]
      simp only [finM, frReady, frStep, e, endW, if_pos hp, if_true]
    · have e : walkStep m s = (m, { s with prev := ((t + 1 : Nat) : Int) + 1, at_ := ((t + 1 : Nat) : Int), read := s.read + 1 }, false) := by
        rw [walkStep, if_pos hl, hm, ha, if_pos hc.1]
        simp only [hc.2, hw]
        rw [if_neg (fun x => hp ⟨x.1.trans h1, x.2.trans h3⟩)]
        have : decide ((ndAt ps (t + 1)).next = 0) = false := by simp [ndAt]; omega
        rw [this]
        rfl
      simp only [finM, frReady, frStep, e, endW, if_neg hp, if_true, Bool.false_eq_true, if_false]
      rw [ih (by omega) f (n + 1) (by omega) { s with prev := ((t + 1 : Nat) : Int) + 1, at_ := ((t + 1 : Nat) : Int), read := s.read + 1 } hl (by simp) h1 h3 (by simp; omega)]
      simp only [Prod.mk.injEq, and_true]
      omega
/-- What it has found there. -/
theorem endW_at (t : Nat) (ht : t < ps.length) (s : WalkS) (i : Nat) (hi : i ≤ t) (hp : isP sum key (ps.getD (ps.length - 1 - t + i) pr0)) (hn : ∀ k, k < i → ¬ isP sum key (ps.getD (ps.length - 1 - t + k) pr0)) (ha : s.at_ = (t : Int) + 1) :
    endW ps sum key t s = ({ s with prev := if i = 0 then s.prev else ((t - i : Nat) : Int) + 2, at_ := ((t - i : Nat) : Int) + 1, node := ndAt ps (t - i), found := true, read := s.read + i + 1 }, i + 1) := by
  induction t generalizing s i with
  | zero =>
    obtain rfl : i = 0 := by omega
    simp only [Nat.sub_zero, Nat.add_zero] at hp
    rw [endW, if_pos hp]
    obtain ⟨c, x, k, lk, f, p, a, n, fd, r⟩ := s
    simp only at ha
    subst ha
    simp
  | succ t ih =>
    by_cases h0 : i = 0
    · subst h0
      simp only [Nat.add_zero] at hp
      rw [endW, if_pos hp]
      obtain ⟨c, x, k, lk, f, p, a, n, fd, r⟩ := s
      simp only at ha
      subst ha
      simp
    · obtain ⟨i, rfl⟩ : ∃ k, i = k + 1 := ⟨i - 1, by omega⟩
      have hn0 := hn 0 (by omega)
      simp only [Nat.add_zero] at hn0
      rw [endW, if_neg hn0]
      dsimp only
      rw [ih (by omega) _ i (by omega) (by rwa [show ps.length - 1 - t + i = ps.length - 1 - (t + 1) + (i + 1) by omega]) (fun k hk => by have := hn (k + 1) (by omega); rwa [show ps.length - 1 - t + k = ps.length - 1 - (t + 1) + (k + 1) by omega]) (by simp)]
      have e1 : t + 1 - (i + 1) = t - i := by omega
      have e2 : (if i = 0 then ((t + 1 : Nat) : Int) + 1 else ((t - i : Nat) : Int) + 2) = (if i + 1 = 0 then s.prev else ((t - i : Nat) : Int) + 2) := by
        rw [if_neg (show ¬ i + 1 = 0 by omega)]
        split
        · subst_vars; simp; omega
        · rfl
      have e3 : s.read + 1 + (i : Int) + 1 = s.read + ((i + 1 : Nat) : Int) + 1 := by omega
      rw [e1, e2, e3]
theorem endW_no (t : Nat) (ht : t < ps.length) (s : WalkS) (hn : ∀ k, k ≤ t → ¬ isP sum key (ps.getD (ps.length - 1 - t + k) pr0)) : endW ps sum key t s = ({ s with prev := 1, at_ := 0, read := s.read + t + 1 }, t + 1) := by
  induction t generalizing s with
  | zero =>
    have hn0 := hn 0 (by omega)
    simp only [Nat.sub_zero, Nat.add_zero] at hn0
    rw [endW, if_neg hn0]
    simp
  | succ t ih =>
    have hn0 := hn 0 (by omega)
    simp only [Nat.add_zero] at hn0
    rw [endW, if_neg hn0]
    dsimp only
    rw [ih (by omega) _ (fun k hk => by have := hn (k + 1) (by omega); rwa [show ps.length - 1 - t + k = ps.length - 1 - (t + 1) + (k + 1) by omega])]
    have e3 : s.read + 1 + (t : Int) + 1 = s.read + ((t + 1 : Nat) : Int) + 1 := by omega
    rw [e3]
end
end Go.Proofs.YtcgfknpobifecaaGreat
