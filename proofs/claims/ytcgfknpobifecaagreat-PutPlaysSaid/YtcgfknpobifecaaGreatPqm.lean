/- A put that is alone, from its first step to its last one: plain law. No condition. A put that is alone, whole: what the memory is behind it. Plain law, no condition. -/
import Derived.Test.YtcgfknpobifecaaGreatPt
namespace Go.Proofs.YtcgfknpobifecaaGreat
open Go.RowKit

section
variable {σ : Type} {r : σ → Bool} {st : σ → σ × Bool}
/-- k steps, none of which is the last one. -/
def GoN (r : σ → Bool) (st : σ → σ × Bool) : Nat → σ → σ → Prop
  | 0, s, s' => s = s'
  | k + 1, s, s' => r s = true ∧ (st s).2 = false ∧ GoN r st k (st s).1 s'
theorem GoN.one {s : σ} (h : r s = true) (h2 : (st s).2 = false) : GoN r st 1 s (st s).1 := ⟨h, h2, rfl⟩
theorem GoN.add : ∀ {k j : Nat} {s s' s'' : σ}, GoN r st k s s' → GoN r st j s' s'' → GoN r st (k + j) s s''
  | 0, j, s, s', s'', h, h2 => by
    have h : s = s' := h
    rw [Nat.zero_add, h]; exact h2
  | k + 1, j, s, s', s'', h, h2 => by
    rw [show k + 1 + j = k + j + 1 by omega]
    exact ⟨h.1, h.2.1, h.2.2.add h2⟩
theorem finM_go : ∀ {k : Nat} {s s' : σ}, GoN r st k s s' → ∀ f n, finM r st (f + k) n s = finM r st f (n + k) s'
  | 0, s, s', h, f, n => by
    have h : s = s' := h
    rw [h]; rfl
  | k + 1, s, s', h, f, n => by
    have e : finM r st (f + k + 1) n s = if r s then (if (st s).2 then (n + 1, true, (st s).1) else finM r st (f + k) (n + 1) (st s).1) else (n, false, s) := rfl
    rw [show f + (k + 1) = f + k + 1 by omega, e, if_pos h.1, h.2.1]
    simp only [Bool.false_eq_true, if_false]
    rw [finM_go h.2.2 f (n + 1), show n + 1 + k = n + (k + 1) by omega]
theorem finM_end {s : σ} (h : r s = true) (h2 : (st s).2 = true) (f n : Nat) : finM r st (f + 1) n s = (n + 1, true, (st s).1) := by
  have e : finM r st (f + 1) n s = if r s then (if (st s).2 then (n + 1, true, (st s).1) else finM r st f (n + 1) (st s).1) else (n, false, s) := rfl
  rw [e, if_pos h, if_pos h2]
end

/-- From h on there is the chain xs. -/
def Chn (ss : List Slot) : Int → List Int → Prop
  | h, [] => h = 0
  | h, x :: xs => h = x ∧ x ≠ 0 ∧ 0 ≤ atA ss x ∧ Chn ss (readNd ss x).next xs
def isK (ss : List Slot) (key : ByteArray) (x : Int) : Prop := (readNd ss x).sum = sumOf key ∧ (readNd ss x).key = key
instance (ss : List Slot) (key : ByteArray) (x : Int) : Decidable (isK ss key x) := by unfold isK; infer_instance
/-- What a walk comes to along a chain. -/
def wScan (ss : List Slot) (key : ByteArray) : List Int → WalkS → WalkS
  | [], ws => ws
  | x :: xs, ws => if isK ss key x then { ws with node := readNd ss x, found := true, read := wrap64 (ws.read + 1) } else wScan ss key xs { ws with prev := ws.at_, at_ := (readNd ss x).next, read := wrap64 (ws.read + 1) }
theorem rdNd_set {ss : List Slot} {i : Nat} {x : Slot} {h : Int} (hne : h % 65536 ≠ i + 1) : readNd (ss.set i x) h = readNd ss h := by
  unfold readNd
  rw [atA_set _ _ _ _ hne]
  by_cases h0 : 0 ≤ atA ss h
  · rw [if_pos h0, if_pos h0]
    obtain ⟨j, hj, _, _, hm, _⟩ := atA_lt ss h h0
    rw [hj, Int.toNat_natCast, getD_set_no ss x (show i ≠ j by omega)]
  · rw [if_neg h0, if_neg h0]
theorem Chn.set {ss : List Slot} {i : Nat} {X : Slot} : ∀ {xs : List Int} {h : Int}, Chn ss h xs → (∀ x ∈ xs, x % 65536 ≠ i + 1) → Chn (ss.set i X) h xs
  | [], h, hc, _ => hc
  | x :: xs, h, hc, hn => by
    obtain ⟨h1, h2, h3, h4⟩ := hc
    have hx := hn x List.mem_cons_self
    exact ⟨h1, h2, by rw [atA_set _ _ _ _ hx]; exact h3, by rw [rdNd_set hx]; exact h4.set fun y hy => hn y (List.mem_cons_of_mem _ hy)⟩
theorem Chn.live {ss : List Slot} : ∀ {xs : List Int} {h : Int}, Chn ss h xs → ∀ x ∈ xs, x ≠ 0 ∧ 0 ≤ atA ss x
  | [], _, _, x, hx => absurd hx List.not_mem_nil
  | y :: xs, h, hc, x, hx => by
    rcases List.mem_cons.1 hx with rfl | h1
    · exact ⟨hc.2.1, hc.2.2.1⟩
    · exact hc.2.2.2.live x h1
theorem wScan_no {ss : List Slot} {key : ByteArray} : ∀ {xs : List Int} (ws : WalkS), (∀ x ∈ xs, ¬ isK ss key x) → (wScan ss key xs ws).found = ws.found ∧ (wScan ss key xs ws).first = ws.first
  | [], ws, _ => ⟨rfl, rfl⟩
  | x :: xs, ws, h => by
    rw [wScan, if_neg (h x List.mem_cons_self)]
    exact wScan_no _ fun y hy => h y (List.mem_cons_of_mem _ hy)
/-- The last one of a list, or d. -/
def lastD : List Int → Int → Int
  | [], d => d
  | x :: xs, _ => lastD xs x
theorem wScan_yes {ss : List Slot} {key : ByteArray} {x : Int} {post : List Int} (hx : isK ss key x) : ∀ {pre : List Int} (ws : WalkS), (∀ y ∈ pre, ¬ isK ss key y) → Chn ss ws.at_ (pre ++ x :: post) →
    (wScan ss key (pre ++ x :: post) ws).found = true ∧ (wScan ss key (pre ++ x :: post) ws).first = ws.first ∧ (wScan ss key (pre ++ x :: post) ws).at_ = x ∧ (wScan ss key (pre ++ x :: post) ws).node = readNd ss x ∧ (wScan ss key (pre ++ x :: post) ws).prev = lastD pre ws.prev
  | [], ws, _, hc => by
    rw [List.nil_append, wScan, if_pos hx]
    exact ⟨rfl, rfl, hc.1, rfl, rfl⟩
  | y :: pre, ws, hn, hc => by
    rw [List.cons_append, wScan, if_neg (hn y List.mem_cons_self)]
    have hy := hc.1
    have := wScan_yes hx (pre := pre) { ws with prev := ws.at_, at_ := (readNd ss y).next, read := wrap64 (ws.read + 1) } (fun z hz => hn z (List.mem_cons_of_mem _ hz)) hc.2.2.2
    rw [hy] at this ⊢
    exact this
theorem putStep_1 (m : MemS) (s : PutS) (ws : WalkS) (h : s.phase = 1) (hw : s.wk = some ws) : putStep m s = ((walkStep m ws).1, { s with wk := some (walkStep m ws).2.1, phase := if (walkStep m ws).2.2 then 2 else 1 }, false) := by
  obtain ⟨key, val, ph, hd, held, cell, wko, mine, err⟩ := s
  dsimp only at h hw
  subst h hw
  rfl
theorem put_walk {m : MemS} {key : ByteArray} : ∀ {xs : List Int} {s : PutS} {ws : WalkS}, xs ≠ [] → s.phase = 1 → s.held = true → s.wk = some ws → ws.looking = true → ws.sum = sumOf key → ws.key = key → Chn m.ss ws.at_ xs →
    ∃ k, k ≤ xs.length ∧ GoN (frReady putReady) (frStep putStep) k (m, s) (m, { s with phase := 2, wk := some (wScan m.ss key xs ws) })
  | [], _, _, h0, _, _, _, _, _, _, _ => absurd rfl h0
  | x :: xs, s, ws, _, hp, hh, hw, hl, hs, hk, hc => by
    obtain ⟨h1, h2, h3, h4⟩ := hc
    have hrd : frReady putReady (m, s) = true := by simp [frReady, putReady, hh]
    have hcode : useCode m.ss ws.at_ = 0 := by rw [useCode, h1, if_pos h3]
    have hws : walkStep m ws = if isK m.ss key x then (m, { ws with node := readNd m.ss x, found := true, read := wrap64 (ws.read + 1) }, true) else (m, { ws with prev := ws.at_, at_ := (readNd m.ss x).next, read := wrap64 (ws.read + 1) }, decide ((readNd m.ss x).next = 0)) := by
      rw [walkStep, if_pos hl, if_pos hcode, hs, hk, h1]
      rfl
    by_cases hx : isK m.ss key x
    · rw [if_pos hx] at hws
      refine ⟨1, by simp, hrd, ?_, ?_⟩
      · show (putStep m s).2.2 = false
        rw [putStep_1 m s ws hp hw]
      · show ((putStep m s).1, (putStep m s).2.1) = _
        rw [putStep_1 m s ws hp hw, hws, wScan, if_pos hx]
        rfl
    · rw [if_neg hx] at hws
      rw [wScan, if_neg hx]
      have hst : frStep putStep (m, s) = ((m, { s with wk := some { ws with prev := ws.at_, at_ := (readNd m.ss x).next, read := wrap64 (ws.read + 1) }, phase := if decide ((readNd m.ss x).next = 0) then 2 else 1 }), false) := by
        show (((putStep m s).1, (putStep m s).2.1), (putStep m s).2.2) = _
        rw [putStep_1 m s ws hp hw, hws]
      by_cases hz : (readNd m.ss x).next = 0
      · have hnil : xs = [] := by
          cases xs with
          | nil => rfl
          | cons y ys => exact absurd (h4.1.symm.trans hz) h4.2.1
        subst hnil
        refine ⟨1, by simp, hrd, by rw [hst], ?_⟩
        rw [hst]
        show (_ : MemS × PutS) = _
        simp [hz, wScan]
      · have hne : xs ≠ [] := fun e => by subst e; exact hz h4
        have hdec : decide ((readNd m.ss x).next = 0) = false := decide_eq_false hz
        obtain ⟨k, hk1, hk2⟩ := put_walk (m := m) (key := key) (xs := xs) (s := { s with wk := some { ws with prev := ws.at_, at_ := (readNd m.ss x).next, read := wrap64 (ws.read + 1) }, phase := 1 }) hne rfl hh rfl hl hs hk h4
        refine ⟨k + 1, by simp; omega, hrd, by rw [hst], ?_⟩
        rw [hst, hdec]
        simp only [Bool.false_eq_true, if_false]
        exact hk2

def lockMem (m : MemS) (lk : Int) (k : Nat) : MemS := { m with locks := m.locks.set lk.toNat k }
def heldS (m : MemS) (k : Nat) (key : ByteArray) (d : Int × Int) : HoldS := ⟨k, sumOf key, 2, m.cells.getD 1 0, d, lockOf (sumOf key) d.1, true, true⟩
theorem putStep_0n {m m' : MemS} {s : PutS} {c' : HoldS} (h : s.phase = 0) (hs : holdStep m s.hold = (m', c', false)) : putStep m s = (m', { s with hold := c' }, false) := by
  rw [putStep, if_pos h]
  dsimp only
  rw [hs]
  rfl
theorem putStep_0y {m m' : MemS} {s : PutS} {c' : HoldS} {d : Int × Int} (h : s.phase = 0) (hs : holdStep m s.hold = (m', c', true)) (hd : holdDesc c' = d) :
    putStep m s = (m', { s with hold := c', held := true, cell := d.2 + bucketOf (sumOf s.key) d.1, wk := some (walk0 (d.2 + bucketOf (sumOf s.key) d.1) (sumOf s.key) s.key), phase := 1 }, false) := by
  rw [putStep, if_pos h]
  dsimp only
  rw [hs]
  subst hd
  rfl
theorem put_hold {m : MemS} {k : Nat} {key val : ByteArray} {d : Int × Int} (hd : descOf m (wrap64 (m.cells.getD 1 0)) = d) (hf : m.locks.getD (lockOf (sumOf key) d.1).toNat 0 = -1) :
    GoN (frReady putReady) (frStep putStep) 3 (m, put0 k key val) (lockMem m (lockOf (sumOf key) d.1) k, ⟨key, val, 1, heldS m k key d, true, d.2 + bucketOf (sumOf key) d.1, some (walk0 (d.2 + bucketOf (sumOf key) d.1) (sumOf key) key), 0, 0⟩) := by
  have hlk := lockOf_is (sumOf key) d.1 (Int.natCast_nonneg _)
  have h1 : holdStep m (hold0 k (sumOf key)) = (m, ⟨k, sumOf key, 1, m.cells.getD 1 0, d, lockOf (sumOf key) d.1, false, false⟩, false) := by subst hd; rfl
  have h2 : holdStep m ⟨k, sumOf key, 1, m.cells.getD 1 0, d, lockOf (sumOf key) d.1, false, false⟩ = (lockMem m (lockOf (sumOf key) d.1) k, ⟨k, sumOf key, 2, m.cells.getD 1 0, d, lockOf (sumOf key) d.1, true, false⟩, false) := by
    rw [holdStep, if_neg (show ¬ (1 : Nat) = 0 by decide), if_pos rfl, if_pos hf]
    rfl
  have h3 : holdStep (lockMem m (lockOf (sumOf key) d.1) k) ⟨k, sumOf key, 2, m.cells.getD 1 0, d, lockOf (sumOf key) d.1, true, false⟩ = (lockMem m (lockOf (sumOf key) d.1) k, heldS m k key d, true) := by
    rw [holdStep, if_neg (show ¬ (2 : Nat) = 0 by decide), if_neg (show ¬ (2 : Nat) = 1 by decide), if_pos rfl]
    exact if_pos rfl
  have e1 := putStep_0n (s := put0 k key val) rfl h1
  have e2 := putStep_0n (s := { put0 k key val with hold := ⟨k, sumOf key, 1, m.cells.getD 1 0, d, lockOf (sumOf key) d.1, false, false⟩ }) rfl h2
  have e3 := putStep_0y (s := { put0 k key val with hold := ⟨k, sumOf key, 2, m.cells.getD 1 0, d, lockOf (sumOf key) d.1, true, false⟩ }) (d := d) rfl h3 rfl
  have r2 : holdReady m ⟨k, sumOf key, 1, m.cells.getD 1 0, d, lockOf (sumOf key) d.1, false, false⟩ = true := by
    rw [holdReady, if_pos ⟨show 0 < lockOf (sumOf key) d.1 by omega, rfl⟩, hf]
    rfl
  have r3 : holdReady (lockMem m (lockOf (sumOf key) d.1) k) ⟨k, sumOf key, 2, m.cells.getD 1 0, d, lockOf (sumOf key) d.1, true, false⟩ = true := by
    rw [holdReady, if_neg (fun h => by simp at h)]
  refine ⟨rfl, by show (putStep _ _).2.2 = false; rw [e1], ?_⟩
  rw [show (frStep putStep (m, put0 k key val)).1 = ((putStep m (put0 k key val)).1, (putStep m (put0 k key val)).2.1) from rfl, e1]
  refine ⟨r2, by show (putStep _ _).2.2 = false; exact congrArg (fun x => x.2.2) e2, ?_⟩
  have f2 := congrArg (fun x : MemS × PutS × Bool => (x.1, x.2.1)) e2
  dsimp only at f2
  show GoN _ _ 1 ((putStep _ _).1, (putStep _ _).2.1) _
  rw [f2]
  refine ⟨r3, by show (putStep _ _).2.2 = false; exact congrArg (fun x => x.2.2) e3, ?_⟩
  have f3 := congrArg (fun x : MemS × PutS × Bool => (x.1, x.2.1)) e3
  exact f3
/-- The walk, as it looks at the first node. -/
def wLook (c : Int) (key : ByteArray) (h : Int) : WalkS := { walk0 c (sumOf key) key with first := h, at_ := h, looking := true }
theorem put_seek {m : MemS} {s : PutS} {key : ByteArray} {c : Int} {xs : List Int} (hp : s.phase = 1) (hh : s.held = true) (hw : s.wk = some (walk0 c (sumOf key) key)) (hc : Chn m.ss (cellAt m c) xs) :
    ∃ k, k ≤ xs.length + 1 ∧ GoN (frReady putReady) (frStep putStep) k (m, s) (m, { s with phase := 2, wk := some (wScan m.ss key xs (wLook c key (cellAt m c))) }) := by
  have hrd : frReady putReady (m, s) = true := by simp [frReady, putReady, hh]
  have hws : walkStep m (walk0 c (sumOf key) key) = (m, wLook c key (cellAt m c), decide (cellAt m c = 0)) := by
    rw [walkStep, if_neg (by simp [walk0])]
    rfl
  have hst : frStep putStep (m, s) = ((m, { s with wk := some (wLook c key (cellAt m c)), phase := if decide (cellAt m c = 0) then 2 else 1 }), false) := by
    show (((putStep m s).1, (putStep m s).2.1), (putStep m s).2.2) = _
    rw [putStep_1 m s _ hp hw, hws]
  cases xs with
  | nil =>
    have h0 : cellAt m c = 0 := hc
    refine ⟨1, by simp, hrd, by rw [hst], ?_⟩
    rw [hst]
    show (_ : MemS × PutS) = _
    simp [h0, wScan]
  | cons x xs =>
    have hn0 : cellAt m c ≠ 0 := by rw [hc.1]; exact hc.2.1
    obtain ⟨k, hk1, hk2⟩ := put_walk (m := m) (key := key) (xs := x :: xs) (s := { s with wk := some (wLook c key (cellAt m c)), phase := 1 }) (ws := wLook c key (cellAt m c)) (by simp) rfl hh rfl rfl rfl rfl hc
    refine ⟨k + 1, by omega, hrd, by rw [hst], ?_⟩
    rw [hst, decide_eq_false hn0]
    simp only [Bool.false_eq_true, if_false]
    exact hk2
end Go.Proofs.YtcgfknpobifecaaGreat

namespace Go.Proofs.YtcgfknpobifecaaGreat
open Go.RowKit

/-- The memory behind a put that has taken place i. -/
def putDone (m : MemS) (c : Int) (nd : Nd) (ws : WalkS) (i : Nat) : MemS :=
  let m1 := { m with ss := m.ss.set i (taken (m.ss.getD i slot0) nd) }
  let m2 := if ws.found = true ∧ ws.prev ≠ 0 then linkM m1 ws.prev (hnd m.ss i) else storeAt m1 c (hnd m.ss i)
  if ws.found then { m2 with waiting := m2.waiting ++ [ws.at_] } else m2
theorem lock_back {locks : List Int} {i : Nat} (k : Int) (h : locks.getD i 0 = -1) : (locks.set i k).set i (-1) = locks := by
  rw [List.set_set]
  apply List.ext_getElem
  · simp
  · intro j h1 h2
    by_cases hij : i = j
    · subst hij
      rw [List.getElem_set_self]
      rw [List.getD_eq_getElem?_getD, List.getElem?_eq_getElem h2] at h
      exact h.symm
    · rw [List.getElem_set_ne hij]
theorem unlock_lock {m : MemS} {lk : Int} {k : Nat} (hl : m.locks.getD lk.toNat 0 = -1) : unlockM (lockMem m lk k) lk k = m := by
  have hlt : lk.toNat < m.locks.length := by
    rcases Nat.lt_or_ge lk.toNat m.locks.length with h | h
    · exact h
    · rw [List.getD_eq_getElem?_getD, List.getElem?_eq_none h] at hl; cases hl
  have e : (lockMem m lk k).locks.getD lk.toNat 0 = k := by simp [lockMem, List.getD_eq_getElem?_getD, hlt]
  rw [unlockM, if_pos e]
  show ({ m with locks := (m.locks.set lk.toNat (k : Int)).set lk.toNat (-1) } : MemS) = m
  rw [lock_back _ hl]
theorem storeAt_lock (M : MemS) (c v lk : Int) (k : Nat) : storeAt (lockMem M lk k) c v = lockMem (storeAt M c v) lk k := by
  unfold storeAt lockMem
  by_cases h : 0 ≤ c ∧ c < M.cells.length
  · rw [if_pos h, if_pos h]
  · rw [if_neg h, if_neg h]
theorem putDone_lock {m : MemS} {lk : Int} {k : Nat} (c : Int) (nd : Nd) (ws : WalkS) (i : Nat) : putDone (lockMem m lk k) c nd ws i = lockMem (putDone m c nd ws i) lk k := by
  unfold putDone
  dsimp only
  by_cases h1 : ws.found = true ∧ ws.prev ≠ 0
  · rw [if_pos h1, if_pos h1]
    by_cases h2 : ws.found = true
    · rw [if_pos h2, if_pos h2]; rfl
    · exact absurd h1.1 h2
  · rw [if_neg h1, if_neg h1]
    have e := storeAt_lock { m with ss := m.ss.set i (taken (m.ss.getD i slot0) nd) } c (hnd m.ss i) lk k
    generalize hM : storeAt { m with ss := m.ss.set i (taken (m.ss.getD i slot0) nd) } c (hnd m.ss i) = M at *
    have e2 : storeAt { lockMem m lk k with ss := (lockMem m lk k).ss.set i (taken ((lockMem m lk k).ss.getD i slot0) nd) } c (hnd (lockMem m lk k).ss i) = lockMem M lk k := e
    rw [e2]
    by_cases h2 : ws.found = true
    · rw [if_pos h2, if_pos h2]; rfl
    · rw [if_neg h2, if_neg h2]
theorem putDone_locks {m : MemS} (c : Int) (nd : Nd) (ws : WalkS) (i : Nat) : (putDone m c nd ws i).locks = m.locks := by
  unfold putDone
  dsimp only
  split <;> split <;> first | rfl | (unfold storeAt; split <;> rfl)
theorem fr_one {m m' : MemS} {s s' : PutS} (hh : s.held = true) (h : putStep m s = (m', s', false)) : GoN (frReady putReady) (frStep putStep) 1 (m, s) (m', s') := by
  refine ⟨by simp [frReady, putReady, hh], by show (putStep m s).2.2 = false; rw [h], ?_⟩
  show ((putStep m s).1, (putStep m s).2.1) = (m', s')
  rw [h]
theorem fr_end {m m' : MemS} {s s' : PutS} (hh : s.held = true) (h : putStep m s = (m', s', true)) (f n : Nat) : finM (frReady putReady) (frStep putStep) (f + 1) n (m, s) = (n + 1, true, m', s') := by
  rw [finM_end (by simp [frReady, putReady, hh]) (by show (putStep m s).2.2 = true; rw [h])]
  show (_, _, (putStep m s).1, (putStep m s).2.1) = _
  rw [h]
section
variable {m : MemS} {k : Nat} {key val : ByteArray} {d : Int × Int} {xs : List Int} {c : Int}
theorem put_full {M : MemS} {ws : WalkS} {hd : HoldS} {cell mine err : Int} (hf : freeAt M.ss = none) (hdn : hd.done = true) :
    ∃ s', (∀ f n, finM (frReady putReady) (frStep putStep) (f + 2) n (M, ⟨key, val, 2, hd, true, cell, some ws, mine, err⟩) = (n + 2, true, unlockM M hd.lock hd.worker, s')) ∧ s'.mine = 0 ∧ s'.err = 4 ∧ wFound s' = ws.found := by
  have e1 : putStep M ⟨key, val, 2, hd, true, cell, some ws, mine, err⟩ = (M, ⟨key, val, 5, hd, true, cell, some ws, 0, 4⟩, false) := by simp [putStep, hf]
  have e2 : putStep M ⟨key, val, 5, hd, true, cell, some ws, 0, 4⟩ = (unlockM M hd.lock hd.worker, ⟨key, val, 5, { hd with done := false }, true, cell, some ws, 0, 4⟩, true) := by simp [putStep, holdDrop, hdn]
  refine ⟨⟨key, val, 5, { hd with done := false }, true, cell, some ws, 0, 4⟩, fun f n => ?_, rfl, rfl, rfl⟩
  rw [show f + 2 = f + 1 + 1 by omega, finM_go (fr_one rfl e1) (f + 1) n, fr_end rfl e2]
theorem put_ok {M : MemS} {ws : WalkS} {hd : HoldS} {cell mine err : Int} {i : Nat} (hf : freeAt M.ss = some i) (hdn : hd.done = true) :
    ∃ s' j, j ≤ 4 ∧ (∀ f n, finM (frReady putReady) (frStep putStep) (f + j) n (M, ⟨key, val, 2, hd, true, cell, some ws, mine, err⟩) = (n + j, true, unlockM (putDone M cell ⟨key, val, sumOf key, if ws.found then ws.node.next else ws.first⟩ ws i) hd.lock hd.worker, s')) ∧ s'.mine = 0 ∧ s'.err = 0 ∧ wFound s' = ws.found := by
  have e1 : putStep M ⟨key, val, 2, hd, true, cell, some ws, mine, err⟩ = ({ M with ss := M.ss.set i (taken (M.ss.getD i slot0) ⟨key, val, sumOf key, if ws.found then ws.node.next else ws.first⟩) }, ⟨key, val, 3, hd, true, cell, some ws, hnd M.ss i, 0⟩, false) := by
    simp [putStep, hf, putNd, wNext]
  have e3 : ∀ (M : MemS) (x : Int), putStep M ⟨key, val, 5, hd, true, cell, some ws, x, 0⟩ = (unlockM M hd.lock hd.worker, ⟨key, val, 5, { hd with done := false }, true, cell, some ws, x, 0⟩, true) := fun M x => by simp [putStep, holdDrop, hdn]
  by_cases hfo : ws.found = true
  · have e2 : ∀ (M : MemS) (x : Int), putStep M ⟨key, val, 3, hd, true, cell, some ws, x, 0⟩ = (if ws.found = true ∧ ws.prev ≠ 0 then linkM M ws.prev x else storeAt M cell x, ⟨key, val, 4, hd, true, cell, some ws, ws.at_, 0⟩, false) := fun M x => by
      simp [putStep, wFound, wPrev, wAt, hfo]
    have e4 : ∀ (M : MemS) (x : Int), putStep M ⟨key, val, 4, hd, true, cell, some ws, x, 0⟩ = ({ M with waiting := M.waiting ++ [x] }, ⟨key, val, 5, hd, true, cell, some ws, 0, 0⟩, false) := fun M x => by simp [putStep]
    refine ⟨⟨key, val, 5, { hd with done := false }, true, cell, some ws, 0, 0⟩, 4, Nat.le_refl _, fun f n => ?_, rfl, rfl, rfl⟩
    rw [show f + 4 = f + 3 + 1 by omega, finM_go (fr_one rfl e1) (f + 3) n, show f + 3 = f + 2 + 1 by omega, finM_go (fr_one rfl (e2 _ _)) (f + 2), show f + 2 = f + 1 + 1 by omega, finM_go (fr_one rfl (e4 _ _)) (f + 1), fr_end rfl (e3 _ _)]
    simp [putDone, hfo]
  · have e2 : ∀ (M : MemS) (x : Int), putStep M ⟨key, val, 3, hd, true, cell, some ws, x, 0⟩ = (if ws.found = true ∧ ws.prev ≠ 0 then linkM M ws.prev x else storeAt M cell x, ⟨key, val, 5, hd, true, cell, some ws, 0, 0⟩, false) := fun M x => by
      simp [putStep, wFound, wPrev, wAt, hfo]
    refine ⟨⟨key, val, 5, { hd with done := false }, true, cell, some ws, 0, 0⟩, 3, by omega, fun f n => ?_, rfl, rfl, rfl⟩
    rw [show f + 3 = f + 2 + 1 by omega, finM_go (fr_one rfl e1) (f + 2) n, show f + 2 = f + 1 + 1 by omega, finM_go (fr_one rfl (e2 _ _)) (f + 1), fr_end rfl (e3 _ _)]
    simp [putDone, hfo]
/-- A put that is alone, from its first step to its last one. -/
theorem put_run (hd : descOf m (wrap64 (m.cells.getD 1 0)) = d) (hl : m.locks.getD (lockOf (sumOf key) d.1).toNat 0 = -1) (hc : c = d.2 + bucketOf (sumOf key) d.1) (hx : Chn m.ss (cellAt m c) xs) (hn : xs.length ≤ 100) :
    ∃ n s', finM (frReady putReady) (frStep putStep) 200 0 (m, put0 k key val) = (n, true, (match freeAt m.ss with | none => m | some i => putDone m c ⟨key, val, sumOf key, if (wScan m.ss key xs (wLook c key (cellAt m c))).found then (wScan m.ss key xs (wLook c key (cellAt m c))).node.next else (wScan m.ss key xs (wLook c key (cellAt m c))).first⟩ (wScan m.ss key xs (wLook c key (cellAt m c))) i), s') ∧
      s'.mine = 0 ∧ s'.err = (if freeAt m.ss = none then 4 else 0) ∧ wFound s' = (wScan m.ss key xs (wLook c key (cellAt m c))).found := by
  subst hc
  have h1 := put_hold (k := k) (key := key) (val := val) hd hl
  obtain ⟨j, hj, h2⟩ := put_seek (m := lockMem m (lockOf (sumOf key) d.1) k) (s := ⟨key, val, 1, heldS m k key d, true, d.2 + bucketOf (sumOf key) d.1, some (walk0 (d.2 + bucketOf (sumOf key) d.1) (sumOf key) key), 0, 0⟩) (key := key) (c := d.2 + bucketOf (sumOf key) d.1) (xs := xs) rfl rfl rfl hx
  have h3 := h1.add h2
  change GoN (frReady putReady) (frStep putStep) (3 + j) (m, put0 k key val) (lockMem m (lockOf (sumOf key) d.1) k, ⟨key, val, 2, heldS m k key d, true, d.2 + bucketOf (sumOf key) d.1, some (wScan m.ss key xs (wLook (d.2 + bucketOf (sumOf key) d.1) key (cellAt m (d.2 + bucketOf (sumOf key) d.1)))), 0, 0⟩) at h3
  generalize wScan m.ss key xs (wLook (d.2 + bucketOf (sumOf key) d.1) key (cellAt m (d.2 + bucketOf (sumOf key) d.1))) = ws at *
  cases hf : freeAt m.ss with
  | none =>
    obtain ⟨s', h4, h5, h6, h7⟩ := put_full (M := lockMem m (lockOf (sumOf key) d.1) k) (key := key) (val := val) (ws := ws) (hd := heldS m k key d) (cell := d.2 + bucketOf (sumOf key) d.1) (mine := 0) (err := 0) hf rfl
    refine ⟨0 + (3 + j) + 2, s', ?_, h5, by rw [h6]; rfl, h7⟩
    rw [show 200 = (200 - 2 - (3 + j)) + 2 + (3 + j) by omega, finM_go h3, h4]
    show (_, _, unlockM (lockMem m (lockOf (sumOf key) d.1) k) (lockOf (sumOf key) d.1) k, _) = _
    rw [unlock_lock hl]
  | some i =>
    obtain ⟨s', j2, hj2, h4, h5, h6, h7⟩ := put_ok (M := lockMem m (lockOf (sumOf key) d.1) k) (key := key) (val := val) (ws := ws) (hd := heldS m k key d) (cell := d.2 + bucketOf (sumOf key) d.1) (mine := 0) (err := 0) hf rfl
    refine ⟨0 + (3 + j) + j2, s', ?_, h5, by rw [h6]; rfl, h7⟩
    rw [show 200 = (200 - j2 - (3 + j)) + j2 + (3 + j) by omega, finM_go h3, h4]
    show (_, _, unlockM (putDone (lockMem m _ k) _ _ ws i) (lockOf (sumOf key) d.1) k, _) = _
    rw [putDone_lock, unlock_lock (by rw [putDone_locks]; exact hl)]
end
end Go.Proofs.YtcgfknpobifecaaGreat
