/- quietuslaw08, quietusref08: what a hold's step comes to in the document, and the locks that are held. No condition. -/
import Derived.Test.YtkknmecmhefofaaLa08
import Derived.Test.YtkknmecmhefofaaRl
namespace Go.Proofs.Ytkknmecmhefofaa
open Go.RowKit

section
variable {l : List KObj} {w : World} {t : Nat} {m : MemS}
theorem memR_held (h : R l w) (ht : l[t]? = some (MemK m)) (u : Int) : Calls Try.prog 71 #[.pointer (some ⟨m.lb, 0, none⟩), .int .i64 u] w fun e w' =>
    ∃ v, e = .returned v ∧ R (l ++ [SlK 3 1 v (heldBy m.locks u 6).length ((heldBy m.locks u 6).map (Value.int .i64))]) w' := by
  have hlt := (List.getElem?_eq_some_iff.1 ht).1
  obtain ⟨o, hr, hok, _, hc, _⟩ := h.get ht
  have h6 := hok.locks
  refine (locks_held hc (16 * l.length) (by omega) (by omega) u).mono ?_
  rw [h6]
  rintro e w' ⟨o', v, rfl, hs, he⟩
  exact ⟨v, rfl, hr.add he (fun x hx => by omega) hs⟩
end
theorem held_one (xs : List Int) (j : Int) (h0 : 0 ≤ j) (h1 : j < 6) (h : ∀ i : Nat, i < 6 → (xs.getD i 0 = 0 ↔ (i : Int) = j)) : heldBy xs 0 6 = [j] := by
  rcases (by omega : j = 0 ∨ j = 1 ∨ j = 2 ∨ j = 3 ∨ j = 4 ∨ j = 5) with rfl | rfl | rfl | rfl | rfl | rfl
  all_goals
    have e0 := h 0 (by decide); have e1 := h 1 (by decide); have e2 := h 2 (by decide); have e3 := h 3 (by decide); have e4 := h 4 (by decide); have e5 := h 5 (by decide)
    simp only [heldBy_succ, e0, e1, e2, e3, e4, e5]
    simp [heldBy]
theorem held_none (xs : List Int) (h : ∀ i : Nat, i < 6 → xs.getD i 0 ≠ 0) : heldBy xs 0 6 = [] := by
  have e0 := h 0 (by decide); have e1 := h 1 (by decide); have e2 := h 2 (by decide); have e3 := h 3 (by decide); have e4 := h 4 (by decide); have e5 := h 5 (by decide)
  simp only [heldBy_succ, e0, e1, e2, e3, e4, e5]
  simp [heldBy]

/-- The document's step: what comes next, and the number. -/
def refS (n u : Int) (f : Bool) (c : Int) : Int × Int :=
  if n = 1 then (2, c) else if n = 2 then (if f then 3 else 2, u) else if n = 3 then (if c = u then 5 else 4, u) else (1, u)
set_option maxHeartbeats 800000 in
theorem ref08_step {l : List KObj} {w : World} (h : R l w) (n u : Int) (hn : n = 1 ∨ n = 2 ∨ n = 3 ∨ n = 4) (f : Bool) (c : Int) :
    Calls Try.prog 70 #[.agg #[.int .i64 n, .int .i64 u], .bool f, .int .i64 c] w (Does l (.agg #[.int .i64 (refS n u f c).1, .int .i64 (refS n u f c).2])) := by
  have hR := hide fun x y => (h.alloc x).alloc y
  clear h
  rcases hn with rfl | rfl | rfl | rfl
  · go_enter Try.func70, Try.ntmps70
    go_wp2
    refine bodyPost_ret (by simp [results, Try.results70, go_sem]; rfl) rfl ?_
    exact ⟨rfl, hR.out _ _⟩
  · cases f
    all_goals
      go_enter Try.func70, Try.ntmps70
      go_wp2
      refine bodyPost_ret (by simp [results, Try.results70, go_sem]; rfl) rfl ?_
      exact ⟨rfl, hR.out _ _⟩
  · by_cases hc : c = u
    · have h2 : (c != u) = false := by simp [hc]
      have e : refS 3 u f c = (5, u) := by simp [refS, hc]
      rw [e]
      go_enter Try.func70, Try.ntmps70
      go_wp2
      refine bodyPost_ret (by simp [results, Try.results70, go_sem]; rfl) rfl ?_
      exact ⟨rfl, hR.out _ _⟩
    · have h2 : (c != u) = true := by simp [hc]
      have e : refS 3 u f c = (4, u) := by simp [refS, hc]
      rw [e]
      go_enter Try.func70, Try.ntmps70
      go_wp2
      refine bodyPost_ret (by simp [results, Try.results70, go_sem]; rfl) rfl ?_
      exact ⟨rfl, hR.out _ _⟩
  · go_enter Try.func70, Try.ntmps70
    go_wp2
    refine bodyPost_ret (by simp [results, Try.results70, go_sem]; rfl) rfl ?_
    exact ⟨rfl, hR.out _ _⟩

def sz08 : List Int := [1, 4, 8, 16, 32]
def tab08 (b cb lb ab : Nat) : Nat → MemS
  | 0 => memNew b cb lb ab 1 2
  | k + 1 => tableM (tab08 b cb lb ab k) (sz08.getD (k + 1) 0)
theorem tab08_b (b cb lb ab k : Nat) : (tab08 b cb lb ab k).b = b ∧ (tab08 b cb lb ab k).cb = cb ∧ (tab08 b cb lb ab k).lb = lb ∧ (tab08 b cb lb ab k).ab = ab := by
  induction k with
  | zero => exact ⟨rfl, rfl, rfl, rfl⟩
  | succ k ih => exact ih
theorem tab08_len (b cb lb ab k : Nat) (h : k ≤ 4) : (tab08 b cb lb ab k).cells.length ≤ 100 ∧ (tab08 b cb lb ab k).tables.length = k + 1 := by
  rcases (by omega : k = 0 ∨ k = 1 ∨ k = 2 ∨ k = 3 ∨ k = 4) with rfl | rfl | rfl | rfl | rfl
  all_goals exact ⟨by simp [tab08, tableM, memNew, sz08], by simp [tab08, tableM, memNew, sz08]⟩
def tabs08 : List (Int × Int) := (tab08 0 0 0 0 4).tables
theorem getD_upd (xs : List Int) (i j : Nat) (v : Int) (h : j < xs.length) : (xs.set j v).getD i 0 = if i = j then v else xs.getD i 0 := by
  by_cases hij : i = j
  · subst hij; simp [h]
  · simp only [List.getD_eq_getElem?_getD]
    rw [List.getElem?_set_ne (by omega), if_neg hij]
/-- A hold and the document's hold. -/
structure St8 (sum c nx nu : Int) (m : MemS) (s : HoldS) : Prop where
  ok : HoldOk s
  me : s.worker = 0
  hsum : s.sum = sum
  hnx : nx = s.phase + 1
  done : s.done = false
  hc : 0 ≤ c ∧ c ≤ 4
  cur : m.cells.getD 1 0 = c
  hnu : 0 ≤ nu ∧ nu ≤ 4
  num : 1 ≤ s.phase → s.number = nu ∧ s.desc = tabs08.getD nu.toNat (0, 0) ∧ s.lock = lockOf sum (sz08.getD nu.toNat 0)
  lock0 : s.phase = 0 → s.lock = 0
  taken : s.taken = decide (2 ≤ s.phase)
  held : ∀ i : Nat, i < 6 → (m.locks.getD i 0 = 0 ↔ (2 ≤ s.phase ∧ (i : Int) = s.lock))
  tab : m.tables = tabs08
  cells : 2 ≤ m.cells.length
  locks : m.locks.length = 6
/-- The lock that the document names. -/
def lk8 (sum nu : Int) : Int := lockOf sum (sz08.getD nu.toNat 0)
def fr8 (sum nu : Int) (m : MemS) : Bool := decide (m.locks.getD (lk8 sum nu).toNat 0 < 0)

section
variable {sum c nx nu : Int} {m : MemS} {s : HoldS}
theorem lk8_is (sum nu : Int) (h : 0 ≤ sum) : 1 ≤ lk8 sum nu ∧ lk8 sum nu ≤ 4 := lockOf_is _ _ h
theorem St8.ready (h : St8 sum c nx nu m s) : holdReady m s = (nx != 2 || fr8 sum nu m) := by
  have hn := h.hnx
  have ht := h.taken
  rcases (by have := h.ok.phase; omega : s.phase = 0 ∨ s.phase = 1 ∨ (s.phase = 2 ∨ s.phase = 3)) with h0 | h0 | h0
  · have h1 : nx = 1 := by omega
    have h2 := h.lock0 h0
    rw [holdReady, if_neg (by omega), h1]; rfl
  · have h1 : nx = 2 := by omega
    have h2 := h.ok.lock1 (by omega)
    obtain ⟨_, _, h3⟩ := h.num (by omega)
    rw [h0] at ht
    rw [holdReady, if_pos ⟨by omega, ht⟩, h1, fr8, lk8, ← h3]; rfl
  · have h1 : nx = 3 ∨ nx = 4 := by omega
    have h2 : s.taken = true := by rw [ht]; simp; omega
    rw [holdReady, if_neg (by rw [h2]; simp)]
    rcases h1 with rfl | rfl <;> rfl
theorem St8.heldNo (h : St8 sum c nx nu m s) (hn : nx = 1 ∨ nx = 2) : heldBy m.locks 0 6 = [] :=
  held_none _ fun i hi hx => by
    have := (h.held i hi).1 hx
    have := h.hnx
    omega
theorem St8.heldOne (h : St8 sum c nx nu m s) (hn : nx = 3 ∨ nx = 4) : heldBy m.locks 0 6 = [lk8 sum nu] := by
  have h1 := h.hnx
  obtain ⟨_, _, h3⟩ := h.num (by omega)
  have h4 := h.ok.lock
  rw [lk8, ← h3]
  refine held_one _ _ (by omega) (by omega) fun i hi => ?_
  rw [h.held i hi]
  omega
theorem St8.setLocks (h : St8 sum c nx nu m s) (ls : List Int) (hl : ls.length = 6) (hs : ∀ i : Nat, i < 6 → (ls.getD i 0 = 0 ↔ m.locks.getD i 0 = 0)) : St8 sum c nx nu { m with locks := ls } s :=
  ⟨h.ok, h.me, h.hsum, h.hnx, h.done, h.hc, h.cur, h.hnu, h.num, h.lock0, h.taken, fun i hi => (hs i hi).trans (h.held i hi), h.tab, h.cells, hl⟩
theorem St8.try_ (h : St8 sum c nx nu m s) (i : Nat) (hi : i < 6) (hx : m.locks.getD i 0 = -1) : St8 sum c nx nu { m with locks := m.locks.set i 1 } s := by
  refine h.setLocks _ (by simpa using h.locks) fun j hj => ?_
  rw [getD_upd _ _ _ _ (by rw [h.locks]; exact hi)]
  split
  · rename_i e; rw [e, hx]; omega
  · rfl
theorem St8.unlock (h : St8 sum c nx nu m s) (i : Int) (hi : 0 ≤ i ∧ i < 6) : St8 sum c nx nu (unlockM m i 1) s := by
  unfold unlockM
  split
  · rename_i hx
    refine h.setLocks _ (by simpa using h.locks) fun j hj => ?_
    rw [getD_upd _ _ _ _ (by rw [h.locks]; omega)]
    split
    · rename_i e; rw [e, hx]; omega
    · rfl
  · exact h
theorem St8.store (h : St8 sum c nx nu m s) (d : Int) (hd : 0 ≤ d ∧ d ≤ 4) : St8 sum d nx nu { m with cells := m.cells.set 1 d } s :=
  ⟨h.ok, h.me, h.hsum, h.hnx, h.done, hd, by show (m.cells.set 1 d).getD 1 0 = d; rw [getD_upd _ _ _ _ (by have := h.cells; omega), if_pos rfl], h.hnu, h.num, h.lock0, h.taken, h.held, h.tab, by simpa using h.cells, h.locks⟩
theorem desc8 (h : St8 sum c nx nu m s) : descOf m (wrap64 c) = tabs08.getD c.toNat (0, 0) ∧ (tabs08.getD c.toNat (0, 0)).1 = sz08.getD c.toNat 0 := by
  have hc := h.hc
  rw [descOf, h.tab]
  rcases (by omega : c = 0 ∨ c = 1 ∨ c = 2 ∨ c = 3 ∨ c = 4) with rfl | rfl | rfl | rfl | rfl <;> exact ⟨by kernel_rfl, by kernel_rfl⟩
/-- A step that is not the last. -/
theorem St8.step (h : St8 sum c nx nu m s) (hm : MemOk m) (hf : nx = 2 → fr8 sum nu m = true) (hd : ¬ (nx = 3 ∧ c = nu)) :
    ∃ m' s', holdStep m s = (m', s', false) ∧ St8 sum c (refS nx nu (fr8 sum nu m) c).1 (refS nx nu (fr8 sum nu m) c).2 m' s' ∧ m'.b = m.b ∧ m'.cb = m.cb ∧ m'.lb = m.lb := by
  have hn := h.hnx
  have hok := hold_inv hm h.ok
  have hl := h.ok.lock
  have hme := h.me
  have hs0 := h.ok.sum
  rcases (by have := h.ok.phase; omega : s.phase = 0 ∨ s.phase = 1 ∨ s.phase = 2 ∨ s.phase = 3) with h0 | h0 | h0 | h0
  · obtain rfl : nx = 1 := by omega
    have hd8 := desc8 h
    have e : holdStep m s = (m, { s with number := c, desc := tabs08.getD c.toNat (0, 0), lock := lk8 sum c, phase := 1 }, false) := by
      rw [holdStep, if_pos h0]
      simp only [h.cur, hd8.1, hd8.2, h.hsum, lk8]
    rw [e] at hok
    refine ⟨_, _, e, ⟨hok, h.me, h.hsum, rfl, h.done, h.hc, h.cur, h.hc, fun _ => ⟨rfl, rfl, rfl⟩, fun h => by simp at h, ?_, fun i hi => ?_, h.tab, h.cells, h.locks⟩, rfl, rfl, rfl⟩
    · have := h.taken
      rw [h0] at this
      exact this
    · rw [h.held i hi, h0]
      dsimp only
      omega
  · obtain rfl : nx = 2 := by omega
    have hf := hf rfl
    obtain ⟨h1, h2, h3⟩ := h.num (by omega)
    have hneg : m.locks.getD s.lock.toNat 0 = -1 := by
      have : m.locks.getD s.lock.toNat 0 < 0 := by rw [fr8, lk8, ← h3] at hf; simpa using hf
      have h5 : -1 ≤ m.locks.getD s.lock.toNat 0 := by
        have h6 := h.locks
        rw [List.getD_eq_getElem?_getD, List.getElem?_eq_getElem (by omega)]
        exact (hm.held _ (List.getElem_mem _)).1
      omega
    have e : holdStep m s = ({ m with locks := m.locks.set s.lock.toNat 0 }, { s with taken := true, phase := 2 }, false) := by
      rw [holdStep, if_neg (by omega), if_pos h0, if_pos hneg, hme]; rfl
    rw [e] at hok
    rw [hf]
    refine ⟨_, _, e, ⟨hok, h.me, h.hsum, rfl, h.done, h.hc, h.cur, h.hnu, fun _ => ⟨h1, h2, h3⟩, fun h => by simp at h, rfl, fun i hi => ?_, h.tab, h.cells, by simpa using h.locks⟩, rfl, rfl, rfl⟩
    show (m.locks.set s.lock.toNat 0).getD i 0 = 0 ↔ (2 ≤ 2 ∧ (i : Int) = s.lock)
    rw [getD_upd _ _ _ _ (by rw [h.locks]; omega)]
    have := h.held i hi
    rw [h0] at this
    split <;> omega
  · obtain rfl : nx = 3 := by omega
    obtain ⟨h1, h2, h3⟩ := h.num (by omega)
    have hne : c ≠ nu := fun h => hd ⟨rfl, h⟩
    have e : holdStep m s = (m, { s with phase := 3 }, false) := by
      rw [holdStep, if_neg (by omega), if_neg (by omega), if_pos h0, if_neg (by rw [h.cur, h1]; exact hne)]
    rw [e] at hok
    have er : refS 3 nu (fr8 sum nu m) c = (4, nu) := by simp [refS, hne]
    rw [er]
    refine ⟨_, _, e, ⟨hok, h.me, h.hsum, rfl, h.done, h.hc, h.cur, h.hnu, fun _ => ⟨h1, h2, h3⟩, fun h => by simp at h, ?_, fun i hi => ?_, h.tab, h.cells, h.locks⟩, rfl, rfl, rfl⟩
    · have := h.taken
      rw [h0] at this
      exact this
    · rw [h.held i hi, h0]
      dsimp only
      omega
  · obtain rfl : nx = 4 := by omega
    have hz : m.locks.getD s.lock.toNat 0 = 0 := (h.held _ (by omega)).2 ⟨by omega, by omega⟩
    have e : holdStep m s = ({ m with locks := m.locks.set s.lock.toNat (-1) }, { s with lock := 0, taken := false, phase := 0 }, false) := by
      rw [holdStep, if_neg (by omega), if_neg (by omega), if_neg (by omega), unlockM, hme, if_pos (show m.locks.getD s.lock.toNat 0 = ((0 : Nat) : Int) from hz)]
    rw [e] at hok
    refine ⟨_, _, e, ⟨hok, h.me, h.hsum, rfl, h.done, h.hc, h.cur, h.hnu, fun h => by simp at h, fun _ => rfl, rfl, fun i hi => ?_, h.tab, h.cells, by simpa using h.locks⟩, rfl, rfl, rfl⟩
    show (m.locks.set s.lock.toNat (-1)).getD i 0 = 0 ↔ (2 ≤ 0 ∧ (i : Int) = 0)
    rw [getD_upd _ _ _ _ (by rw [h.locks]; omega)]
    have := h.held i hi
    rw [h0] at this
    split <;> omega
theorem unlockM_b (m : MemS) (i : Int) (u : Nat) : (unlockM m i u).b = m.b ∧ (unlockM m i u).cb = m.cb ∧ (unlockM m i u).lb = m.lb := by unfold unlockM; split <;> exact ⟨rfl, rfl, rfl⟩
theorem St8.dropNone (h : St8 sum c nx nu m s) (hp : s.phase = 2) : heldBy (unlockM m s.lock s.worker).locks 0 6 = [] := by
  have hl1 := h.ok.lock1 (by omega)
  have hl4 := h.ok.lock
  have hz : m.locks.getD s.lock.toNat 0 = 0 := (h.held _ (by omega)).2 ⟨by omega, by omega⟩
  rw [unlockM, h.me, if_pos (show m.locks.getD s.lock.toNat 0 = ((0 : Nat) : Int) from hz)]
  refine held_none _ fun i hi => ?_
  show (m.locks.set s.lock.toNat (-1)).getD i 0 ≠ 0
  rw [getD_upd _ _ _ _ (by rw [h.locks]; omega)]
  have := h.held i hi
  split <;> omega
end
set_option maxRecDepth 100000 in
set_option maxHeartbeats 1600000 in
theorem law08_many (sum : Int) (a : Option Addr) (len cap : Nat) (h : 80 < len) (hl : len ≤ 9223372036854775807) (w : World) :
    Calls Try.prog 9 #[.int .u32 sum, .slice a len cap] w fun e w' => e = .returned (.bool true) ∧ Below w.heap.size w w' := by
  have hmd := hide (law05_made (R.start w) 1 2 (by decide) (by decide) (by decide) (by decide))
  go_enter Try.func9, Try.ntmps9
  go_wp2_with fail
  refine hmd.out.mono ?_
  rintro e w1 ⟨b, cb, lb, ab, rfl, R1⟩
  have hnw := hide (hold_new R1 0 sum)
  clear hmd R1
  go_wp2_with fail
  refine hnw.out.mono ?_
  rintro e w2 ⟨hb, rfl, R2⟩
  replace R2 := hide R2
  clear hnw
  go_wp2_with fail
  refine (law08_awake _).mono ?_
  rintro e w7 ⟨rfl, hb7⟩
  have hbel7 := (R2.out.below hb7).done
  go_wp2
  go_ret
  exact ⟨rfl, hbel7⟩
end Go.Proofs.Ytkknmecmhefofaa
