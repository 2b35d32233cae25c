/- A del that is alone, from its first step to its last one: plain law. No condition. -/
import Derived.Test.YtcgfknpobifecaaGreatDtm
import Derived.Test.YtcgfknpobifecaaGreatMtm
namespace Go.Proofs.YtcgfknpobifecaaGreat
open Go.RowKit

theorem delStep_1 (m : MemS) (s : DelS) (ws : WalkS) (h : s.phase = 1) (hw : s.wk = some ws) : delStep m s = ((walkStep m ws).1, { s with wk := some (walkStep m ws).2.1, phase := if (walkStep m ws).2.2 then (if (walkStep m ws).2.1.found then 2 else 4) else 1 }, false) := by
  obtain ⟨key, ph, hd, held, cell, wko, mine⟩ := s
  dsimp only at h hw
  subst h hw
  rfl
theorem del_walk {m : MemS} {key : ByteArray} : ∀ {xs : List Int} {s : DelS} {ws : WalkS}, xs ≠ [] → s.phase = 1 → s.held = true → s.wk = some ws → ws.looking = true → ws.sum = sumOf key → ws.key = key → Chn m.ss ws.at_ xs →
    ∃ k, k ≤ xs.length ∧ GoN (frReady delReady) (frStep delStep) k (m, s) (m, { s with phase := if (wScan m.ss key xs ws).found then 2 else 4, wk := some (wScan m.ss key xs ws) })
  | [], _, _, h0, _, _, _, _, _, _, _ => absurd rfl h0
  | x :: xs, s, ws, _, hp, hh, hw, hl, hs, hk, hc => by
    obtain ⟨h1, h2, h3, h4⟩ := hc
    have hrd : frReady delReady (m, s) = true := by simp [frReady, delReady, hh]
    have hcode : useCode m.ss ws.at_ = 0 := by rw [useCode, h1, if_pos h3]
    have hws : walkStep m ws = if isK m.ss key x then (m, { ws with node := readNd m.ss x, found := true, read := wrap64 (ws.read + 1) }, true) else (m, { ws with prev := ws.at_, at_ := (readNd m.ss x).next, read := wrap64 (ws.read + 1) }, decide ((readNd m.ss x).next = 0)) := by
      rw [walkStep, if_pos hl, if_pos hcode, hs, hk, h1]
      rfl
    by_cases hx : isK m.ss key x
    · rw [if_pos hx] at hws
      refine ⟨1, by simp, hrd, ?_, ?_⟩
      · show (delStep m s).2.2 = false
        rw [delStep_1 m s ws hp hw]
      · show ((delStep m s).1, (delStep m s).2.1) = _
        rw [delStep_1 m s ws hp hw, hws, wScan, if_pos hx]
        rfl
    · rw [if_neg hx] at hws
      rw [wScan, if_neg hx]
      have hst : frStep delStep (m, s) = ((m, { s with wk := some { ws with prev := ws.at_, at_ := (readNd m.ss x).next, read := wrap64 (ws.read + 1) }, phase := if decide ((readNd m.ss x).next = 0) then (if ws.found then 2 else 4) else 1 }), false) := by
        show (((delStep m s).1, (delStep m s).2.1), (delStep m s).2.2) = _
        rw [delStep_1 m s ws hp hw, hws]
      by_cases hz : (readNd m.ss x).next = 0
      · have hnil : xs = [] := by
          cases xs with
          | nil => rfl
          | cons y ys => exact absurd (h4.1.symm.trans hz) h4.2.1
        subst hnil
        refine ⟨1, by simp, hrd, by rw [hst], ?_⟩
        rw [hst]
        show (_ : MemS × DelS) = _
        simp [hz, wScan]
      · have hne : xs ≠ [] := fun e => by subst e; exact hz h4
        have hdec : decide ((readNd m.ss x).next = 0) = false := decide_eq_false hz
        obtain ⟨k, hk1, hk2⟩ := del_walk (m := m) (key := key) (xs := xs) (s := { s with wk := some { ws with prev := ws.at_, at_ := (readNd m.ss x).next, read := wrap64 (ws.read + 1) }, phase := 1 }) hne rfl hh rfl hl hs hk h4
        refine ⟨k + 1, by simp; omega, hrd, by rw [hst], ?_⟩
        rw [hst, hdec]
        simp only [Bool.false_eq_true, if_false]
        exact hk2

theorem delStep_0n {m m' : MemS} {s : DelS} {c' : HoldS} (h : s.phase = 0) (hs : holdStep m s.hold = (m', c', false)) : delStep m s = (m', { s with hold := c' }, false) := by
  rw [delStep, if_pos h]
  dsimp only
  rw [hs]
  rfl
theorem delStep_0y {m m' : MemS} {s : DelS} {c' : HoldS} {d : Int × Int} (h : s.phase = 0) (hs : holdStep m s.hold = (m', c', true)) (hd : holdDesc c' = d) :
    delStep m s = (m', { s with hold := c', held := true, cell := d.2 + bucketOf (sumOf s.key) d.1, wk := some (walk0 (d.2 + bucketOf (sumOf s.key) d.1) (sumOf s.key) s.key), phase := 1 }, false) := by
  rw [delStep, if_pos h]
  dsimp only
  rw [hs]
  subst hd
  rfl
theorem del_hold {m : MemS} {k : Nat} {key : ByteArray} {d : Int × Int} (hd : descOf m (wrap64 (m.cells.getD 1 0)) = d) (hf : m.locks.getD (lockOf (sumOf key) d.1).toNat 0 = -1) :
    GoN (frReady delReady) (frStep delStep) 3 (m, del0 k key) (lockMem m (lockOf (sumOf key) d.1) k, ⟨key, 1, heldS m k key d, true, d.2 + bucketOf (sumOf key) d.1, some (walk0 (d.2 + bucketOf (sumOf key) d.1) (sumOf key) key), 0⟩) := by
  have hlk := lockOf_is (sumOf key) d.1 (Int.natCast_nonneg _)
  have h1 : holdStep m (hold0 k (sumOf key)) = (m, ⟨k, sumOf key, 1, m.cells.getD 1 0, d, lockOf (sumOf key) d.1, false, false⟩, false) := by subst hd; rfl
  have h2 : holdStep m ⟨k, sumOf key, 1, m.cells.getD 1 0, d, lockOf (sumOf key) d.1, false, false⟩ = (lockMem m (lockOf (sumOf key) d.1) k, ⟨k, sumOf key, 2, m.cells.getD 1 0, d, lockOf (sumOf key) d.1, true, false⟩, false) := by
    rw [holdStep, if_neg (show ¬ (1 : Nat) = 0 by decide), if_pos rfl, if_pos hf]
    rfl
  have h3 : holdStep (lockMem m (lockOf (sumOf key) d.1) k) ⟨k, sumOf key, 2, m.cells.getD 1 0, d, lockOf (sumOf key) d.1, true, false⟩ = (lockMem m (lockOf (sumOf key) d.1) k, heldS m k key d, true) := by
    rw [holdStep, if_neg (show ¬ (2 : Nat) = 0 by decide), if_neg (show ¬ (2 : Nat) = 1 by decide), if_pos rfl]
    exact if_pos rfl
  have e1 := delStep_0n (s := del0 k key) rfl h1
  have e2 := delStep_0n (s := { del0 k key with hold := ⟨k, sumOf key, 1, m.cells.getD 1 0, d, lockOf (sumOf key) d.1, false, false⟩ }) rfl h2
  have e3 := delStep_0y (s := { del0 k key with hold := ⟨k, sumOf key, 2, m.cells.getD 1 0, d, lockOf (sumOf key) d.1, true, false⟩ }) (d := d) rfl h3 rfl
  have r2 : holdReady m ⟨k, sumOf key, 1, m.cells.getD 1 0, d, lockOf (sumOf key) d.1, false, false⟩ = true := by
    rw [holdReady, if_pos ⟨show 0 < lockOf (sumOf key) d.1 by omega, rfl⟩, hf]
    rfl
  have r3 : holdReady (lockMem m (lockOf (sumOf key) d.1) k) ⟨k, sumOf key, 2, m.cells.getD 1 0, d, lockOf (sumOf key) d.1, true, false⟩ = true := by
    rw [holdReady, if_neg (fun h => by simp at h)]
  refine ⟨rfl, by show (delStep _ _).2.2 = false; rw [e1], ?_⟩
  rw [show (frStep delStep (m, del0 k key)).1 = ((delStep m (del0 k key)).1, (delStep m (del0 k key)).2.1) from rfl, e1]
  refine ⟨r2, by show (delStep _ _).2.2 = false; exact congrArg (fun x => x.2.2) e2, ?_⟩
  have f2 := congrArg (fun x : MemS × DelS × Bool => (x.1, x.2.1)) e2
  dsimp only at f2
  show GoN _ _ 1 ((delStep _ _).1, (delStep _ _).2.1) _
  rw [f2]
  refine ⟨r3, by show (delStep _ _).2.2 = false; exact congrArg (fun x => x.2.2) e3, ?_⟩
  have f3 := congrArg (fun x : MemS × DelS × Bool => (x.1, x.2.1)) e3
  exact f3
theorem del_seek {m : MemS} {s : DelS} {key : ByteArray} {c : Int} {xs : List Int} (hp : s.phase = 1) (hh : s.held = true) (hw : s.wk = some (walk0 c (sumOf key) key)) (hc : Chn m.ss (cellAt m c) xs) :
    ∃ k, k ≤ xs.length + 1 ∧ GoN (frReady delReady) (frStep delStep) k (m, s) (m, { s with phase := if (wScan m.ss key xs (wLook c key (cellAt m c))).found then 2 else 4, wk := some (wScan m.ss key xs (wLook c key (cellAt m c))) }) := by
  have hrd : frReady delReady (m, s) = true := by simp [frReady, delReady, hh]
  have hws : walkStep m (walk0 c (sumOf key) key) = (m, wLook c key (cellAt m c), decide (cellAt m c = 0)) := by
    rw [walkStep, if_neg (by simp [walk0])]
    rfl
  have hst : frStep delStep (m, s) = ((m, { s with wk := some (wLook c key (cellAt m c)), phase := if decide (cellAt m c = 0) then 4 else 1 }), false) := by
    show (((delStep m s).1, (delStep m s).2.1), (delStep m s).2.2) = _
    rw [delStep_1 m s _ hp hw, hws]
    rfl
  cases xs with
  | nil =>
    have h0 : cellAt m c = 0 := hc
    refine ⟨1, by simp, hrd, by rw [hst], ?_⟩
    rw [hst]
    show (_ : MemS × DelS) = _
    simp [h0, wScan, wLook, walk0]
  | cons x xs =>
    have hn0 : cellAt m c ≠ 0 := by rw [hc.1]; exact hc.2.1
    obtain ⟨k, hk1, hk2⟩ := del_walk (m := m) (key := key) (xs := x :: xs) (s := { s with wk := some (wLook c key (cellAt m c)), phase := 1 }) (ws := wLook c key (cellAt m c)) (by simp) rfl hh rfl rfl rfl rfl hc
    refine ⟨k + 1, by omega, hrd, by rw [hst], ?_⟩
    rw [hst, decide_eq_false hn0]
    simp only [Bool.false_eq_true, if_false]
    exact hk2
/-- The memory behind a del that is alone. -/
def delDone (m : MemS) (c : Int) (ws : WalkS) : MemS := if ws.found then { overM m c ws with waiting := m.waiting ++ [ws.at_] } else m
theorem overM_lock {m : MemS} {lk : Int} {k : Nat} (c : Int) (ws : WalkS) : overM (lockMem m lk k) c ws = lockMem (overM m c ws) lk k := by
  unfold overM
  split
  · rfl
  · exact storeAt_lock _ _ _ _ _
theorem overM_locks (m : MemS) (c : Int) (ws : WalkS) : (overM m c ws).locks = m.locks := by
  unfold overM
  split
  · rfl
  · unfold storeAt; split <;> rfl
theorem delDone_lock {m : MemS} {lk : Int} {k : Nat} (c : Int) (ws : WalkS) : delDone (lockMem m lk k) c ws = lockMem (delDone m c ws) lk k := by
  unfold delDone
  split
  · rw [overM_lock]; rfl
  · rfl
theorem delDone_locks (m : MemS) (c : Int) (ws : WalkS) : (delDone m c ws).locks = m.locks := by
  unfold delDone
  split
  · exact overM_locks _ _ _
  · rfl
theorem frd_one {m m' : MemS} {s s' : DelS} (hh : s.held = true) (h : delStep m s = (m', s', false)) : GoN (frReady delReady) (frStep delStep) 1 (m, s) (m', s') := by
  refine ⟨by simp [frReady, delReady, hh], by show (delStep m s).2.2 = false; rw [h], ?_⟩
  show ((delStep m s).1, (delStep m s).2.1) = (m', s')
  rw [h]
theorem frd_end {m m' : MemS} {s s' : DelS} (hh : s.held = true) (h : delStep m s = (m', s', true)) (f n : Nat) : finM (frReady delReady) (frStep delStep) (f + 1) n (m, s) = (n + 1, true, m', s') := by
  rw [finM_end (by simp [frReady, delReady, hh]) (by show (delStep m s).2.2 = true; rw [h])]
  show (_, _, (delStep m s).1, (delStep m s).2.1) = _
  rw [h]
section
variable {m : MemS} {k : Nat} {key : ByteArray} {d : Int × Int} {xs : List Int} {c : Int}
theorem del_ok {M : MemS} {ws : WalkS} {hd : HoldS} {cell : Int} (hdn : hd.done = true) :
    ∃ s' j, j ≤ 3 ∧ (∀ f n, finM (frReady delReady) (frStep delStep) (f + j) n (M, ⟨key, if ws.found then 2 else 4, hd, true, cell, some ws, 0⟩) = (n + j, true, unlockM (delDone M cell ws) hd.lock hd.worker, s')) ∧ s'.mine = 0 ∧ s'.wk = some ws := by
  have e3 : ∀ (M : MemS), delStep M ⟨key, 4, hd, true, cell, some ws, 0⟩ = (unlockM M hd.lock hd.worker, ⟨key, 4, { hd with done := false }, true, cell, some ws, 0⟩, true) := fun M => by simp [delStep, holdDrop, hdn]
  by_cases hfo : ws.found = true
  · have e1 : delStep M ⟨key, 2, hd, true, cell, some ws, 0⟩ = (overM M cell ws, ⟨key, 3, hd, true, cell, some ws, ws.at_⟩, false) := by simp [delStep, hfo]
    have e2 : ∀ (M : MemS) (x : Int), delStep M ⟨key, 3, hd, true, cell, some ws, x⟩ = ({ M with waiting := M.waiting ++ [x] }, ⟨key, 4, hd, true, cell, some ws, 0⟩, false) := fun M x => by simp [delStep]
    rw [if_pos hfo]
    refine ⟨⟨key, 4, { hd with done := false }, true, cell, some ws, 0⟩, 3, Nat.le_refl _, fun f n => ?_, rfl, rfl⟩
    rw [show f + 3 = f + 2 + 1 by omega, finM_go (frd_one rfl e1) (f + 2) n, show f + 2 = f + 1 + 1 by omega, finM_go (frd_one rfl (e2 _ _)) (f + 1), frd_end rfl (e3 _), delDone, if_pos hfo, (overM_b M cell ws).2.2]
  · rw [if_neg hfo]
    refine ⟨⟨key, 4, { hd with done := false }, true, cell, some ws, 0⟩, 1, by omega, fun f n => ?_, rfl, rfl⟩
    rw [frd_end rfl (e3 _), delDone, if_neg hfo]
/-- A del that is alone, from its first step to its last one. -/
theorem del_run (hd : descOf m (wrap64 (m.cells.getD 1 0)) = d) (hl : m.locks.getD (lockOf (sumOf key) d.1).toNat 0 = -1) (hc : c = d.2 + bucketOf (sumOf key) d.1) (hx : Chn m.ss (cellAt m c) xs) (hn : xs.length ≤ 100) :
    ∃ n s', finM (frReady delReady) (frStep delStep) 300 0 (m, del0 k key) = (n, true, delDone m c (wScan m.ss key xs (wLook c key (cellAt m c))), s') ∧ s'.mine = 0 ∧ s'.wk = some (wScan m.ss key xs (wLook c key (cellAt m c))) := by
  subst hc
  have h1 := del_hold (k := k) (key := key) hd hl
  obtain ⟨j, hj, h2⟩ := del_seek (m := lockMem m (lockOf (sumOf key) d.1) k) (s := ⟨key, 1, heldS m k key d, true, d.2 + bucketOf (sumOf key) d.1, some (walk0 (d.2 + bucketOf (sumOf key) d.1) (sumOf key) key), 0⟩) (key := key) (c := d.2 + bucketOf (sumOf key) d.1) (xs := xs) rfl rfl rfl hx
  have h3 := h1.add h2
  change GoN (frReady delReady) (frStep delStep) (3 + j) (m, del0 k key) (lockMem m (lockOf (sumOf key) d.1) k, ⟨key, if (wScan m.ss key xs (wLook (d.2 + bucketOf (sumOf key) d.1) key (cellAt m (d.2 + bucketOf (sumOf key) d.1)))).found then 2 else 4, heldS m k key d, true, d.2 + bucketOf (sumOf key) d.1, some (wScan m.ss key xs (wLook (d.2 + bucketOf (sumOf key) d.1) key (cellAt m (d.2 + bucketOf (sumOf key) d.1)))), 0⟩) at h3
  generalize wScan m.ss key xs (wLook (d.2 + bucketOf (sumOf key) d.1) key (cellAt m (d.2 + bucketOf (sumOf key) d.1))) = ws at *
  obtain ⟨s', j2, hj2, h4, h5, h6⟩ := del_ok (M := lockMem m (lockOf (sumOf key) d.1) k) (key := key) (ws := ws) (hd := heldS m k key d) (cell := d.2 + bucketOf (sumOf key) d.1) rfl
  refine ⟨0 + (3 + j) + j2, s', ?_, h5, h6⟩
  rw [show 300 = (300 - j2 - (3 + j)) + j2 + (3 + j) by omega, finM_go h3, h4]
  show (_, _, unlockM (delDone (lockMem m _ k) _ ws) (lockOf (sumOf key) d.1) k, _) = _
  rw [delDone_lock, unlock_lock (by rw [delDone_locks]; exact hl)]
end
end Go.Proofs.YtcgfknpobifecaaGreat
