/- Package retire: Step, Ready, Left over a drain; a drain as a kind of frame. Condition: the memory and the drain are there. A drain where nobody is in: what the memory is behind it, and that it still holds the map. Plain law; condition: two workers. -/
import Derived.Test.YtcgfknpobifecaaGreatMwm
import Derived.Test.YtcgfknpobifecaaGreatMtm
namespace Go.Proofs.YtcgfknpobifecaaGreat
open Go.RowKit

section
variable {l : List KObj} {w : World} {t u : Nat} {m : MemS} {b : Nat} {s : DrainS}
theorem R.drainHdr (h : R l w) (hu : l[u]? = some (DrainK b s)) : ∃ a c, blk w b = some (.cells #[.slice a s.left.length c, .iface 141 (.pointer (some ⟨s.wb, 0, none⟩)), .bool s.taken, .bool s.past] 144 (0, 0)) ∧ s.left.length ≤ 9223372036854775807 := by
  obtain ⟨o, _, lv, h1, _, ⟨⟨a, c, rfl⟩, hl, _⟩⟩ := h.get hu
  exact ⟨a, c, h1.heap, hl⟩
set_option maxHeartbeats 800000 in
theorem drain_step (h : R l w) (ht : l[t]? = some (MemK m)) (hu : l[u]? = some (DrainK b s)) (hne : t ≠ u) (hok : DrainOk m s) :
    Calls Tryz.prog 205 #[.pointer (some ⟨b, 0, none⟩), .pointer (some ⟨m.b, 0, none⟩)] w (Does ((l.set t (MemK (drainStep m s).1)).set u (DrainK b (drainStep m s).2.1)) (.bool (drainStep m s).2.2)) := by
  obtain ⟨a, c, hb, _⟩ := h.drainHdr hu
  by_cases h1 : s.taken = true
  · by_cases h2 : s.past = true
    · have hc := hide (drain_free h ht hu hne hok h1 h2)
      rw [h1, h2] at hb
      replace h1 := hide h1
      replace h2 := hide h2
      clear h hok
      go_enter Tryz.func205, Tryz.ntmps205
      go_wp2_with fail
      refine hc.out.mono ?_
      rintro e w2 ⟨rfl, h2⟩
      replace h2 := hide h2
      go_wp2
      go_ret
      exact ⟨rfl, h2.out⟩
    · have e : drainStep m s = ((waitStep m s.ws).1, { s with ws := (waitStep m s.ws).2.1, past := (waitStep m s.ws).2.2 }, (waitStep m s.ws).2.2 && decide (s.left = [])) := by simp [drainStep, h1, h2]
      rw [e]
      have hc := hide (drain_pass h ht hu hne hok)
      have h2' : s.past = false := by simpa using h2
      rw [h1, h2'] at hb
      replace h1 := hide h1
      clear h2 h2' h hok e
      go_enter Tryz.func205, Tryz.ntmps205
      go_wp2_with fail
      refine hc.out.mono ?_
      rintro e w2 ⟨rfl, h2⟩
      replace h2 := hide h2
      go_wp2
      go_ret
      exact ⟨rfl, h2.out⟩
  · have h1' : s.taken = false := by simpa using h1
    have e : drainStep m s = ({ m with waiting := [] }, { s with left := m.waiting, taken := true }, false) := by simp [drainStep, h1']
    rw [e]
    have hc := hide (drain_take h ht hu hne h1')
    rw [h1'] at hb
    clear h1 h1' h hok e
    go_enter Tryz.func205, Tryz.ntmps205
    go_wp2_with fail
    refine hc.out.mono ?_
    rintro e w2 ⟨rfl, h2⟩
    replace h2 := hide h2
    go_wp2
    go_ret
    exact ⟨rfl, h2.out⟩

set_option maxHeartbeats 800000 in
theorem drain_ready (h : R l w) (ht : l[t]? = some (MemK m)) (hu : l[u]? = some (DrainK b s)) (hne : t ≠ u) (hok : DrainOk m s) :
    Calls Tryz.prog 204 #[.pointer (some ⟨b, 0, none⟩), .pointer (some ⟨m.b, 0, none⟩)] w (Does l (.bool (drainReady m s))) := by
  obtain ⟨a, c, hb, _⟩ := h.drainHdr hu
  by_cases h1 : s.taken = true
  · by_cases h2 : s.past = true
    · have e : drainReady m s = true := by simp [drainReady, h1, h2]
      rw [e]
      rw [h1, h2] at hb
      replace h := hide h
      replace h1 := hide h1
      replace h2 := hide h2
      clear hok
      go_enter Tryz.func204, Tryz.ntmps204
      go_wp2
      go_ret
      exact ⟨rfl, h.out⟩
    · have e : drainReady m s = waitReady m s.ws := by simp [drainReady, h1, h2]
      rw [e]
      have h2' : s.past = false := by simpa using h2
      rw [h1, h2'] at hb
      obtain ⟨lv, hsp⟩ := h.drainSplit hu
      have hr := hide (wait_ready hsp (t := t) (u := (l.set u NoK).length + 1) (app_get (set_other ht hne.symm)) (getP (i := 1) rfl) hok.wait)
      have n1 := (wait_frame s.wb).nr 324 w
      have m1 := (wait_frame s.wb).mr 324 w
      have hul := lt_of_at hu
      replace h1 := hide h1
      clear h2 h2' h hok e hsp
      go_enter Tryz.func204, Tryz.ntmps204
      go_wp2_with fail
      refine hr.out.mono ?_
      rintro e w2 ⟨rfl, h2⟩
      have h3 := h2.drainJoin (s := s) (u := u) (by simpa using hul)
      rw [List.set_set, set_same hu] at h3
      replace h3 := hide h3
      clear h2
      go_wp2
      go_ret
      exact ⟨rfl, h3.out⟩
  · have h1' : s.taken = false := by simpa using h1
    have e : drainReady m s = decide (0 < m.waiting.length) := by simp [drainReady, h1']
    rw [e]
    have hc := hide (mem_waiting h ht)
    rw [h1'] at hb
    replace h := hide h
    clear h1 h1' hok e
    go_enter Tryz.func204, Tryz.ntmps204
    go_wp2_with fail
    refine hc.out.mono ?_
    rintro e w2 ⟨rfl, rfl⟩
    go_wp2
    go_ret
    exact ⟨by simp, h.out⟩

def SomeSl (l : List KObj) (n : Nat) (e : Ending) (w' : World) : Prop := ∃ a c, e = .returned (.slice a n c) ∧ R l w'
theorem handles_nil (n c : Nat) (w : World) : (binOp .eql 34 (.slice none n c) (.slice none 0 0)).run Tryz.prog w = .ok (.bool true) w := by kernel_rfl
theorem handles_some (ad : Addr) (n c : Nat) (w : World) : (binOp .eql 34 (.slice (some ad) n c) (.slice none 0 0)).run Tryz.prog w = .ok (.bool false) w := by kernel_rfl
end
theorem drain_frame (b : Nat) : FrameAt 88 204 205 b := ⟨fun n w => by kernel_rfl, fun n w => by kernel_rfl, fun n w => by kernel_rfl, fun a w => by kernel_rfl, fun a w => by kernel_rfl, fun n w => by kernel_rfl⟩
theorem waitStep_gen (m : MemS) (s : WaitS) : (waitStep m s).1.gen = m.gen ∧ (waitStep m s).1.waiting = m.waiting := by
  unfold waitStep
  split
  · split <;> exact ⟨rfl, rfl⟩
  · split
    · exact ⟨rfl, rfl⟩
    · split
      · exact ⟨rfl, rfl⟩
      · dsimp only; split <;> exact ⟨rfl, rfl⟩

theorem drain_blk (m : MemS) (s : DrainS) : (drainStep m s).1.b = m.b := by
  unfold drainStep
  split
  · split
    · split
      · rfl
      · unfold freeM; split <;> rfl
    · exact waitK.blk m s.ws
  · rfl
def DrainInv (m : MemS) (s : DrainS) : Prop := DrainOk m s ∧ s.left.length + m.waiting.length + m.gen ≤ 1000000
theorem drain_inv {m : MemS} {s : DrainS} (hm : MemOk m) (hi : DrainInv m s) (hr : drainReady m s = true) : DrainInv (drainStep m s).1 (drainStep m s).2.1 := by
  obtain ⟨⟨h1, h2, h3, h4⟩, h5⟩ := hi
  have hg := waitStep_gen m s.ws
  unfold drainStep
  unfold drainReady at hr
  split
  · rename_i ht
    rw [if_pos ht] at hr
    split
    · split
      · exact ⟨⟨h1, h2, h3, h4⟩, h5⟩
      · rename_i x tl hl
        rw [hl] at h2 h5
        simp at h5
        have e1 : (freeM m x).gen ≤ m.gen + 1 ∧ (freeM m x).workers = m.workers ∧ (freeM m x).waiting = m.waiting := by unfold freeM; split <;> simp
        refine ⟨⟨⟨h1.at_, fun h => by rw [e1.2.1]; exact h1.next h, h1.early, h1.small, h1.period⟩, fun y hy => h2 y (by simp [hy]), by dsimp only; omega, fun h => by rw [ht] at h; cases h⟩, ?_⟩
        rw [e1.2.2]
        dsimp only
        omega
    · rename_i hp
      rw [if_neg hp] at hr
      exact ⟨⟨waitK.inv hm h1 hr, h2, by dsimp only; omega, fun h => by rw [ht] at h; cases h⟩, by dsimp only; rw [hg.1, hg.2]; exact h5⟩
  · rename_i ht
    rw [h4 (by simpa using ht)] at h5
    exact ⟨⟨⟨h1.at_, h1.next, h1.early, h1.small, h1.period⟩, hm.wait, h3, fun h => by cases h⟩, by simp at h5 ⊢; omega⟩
theorem drainK : FrameK 88 204 205 DrainK DrainInv drainReady drainStep where
  at_ := drain_frame
  ready_ h ht hu hne hi := drain_ready h ht hu hne hi.1
  step_ h ht hu hne hi _ := drain_step h ht hu hne hi.1
  inv := drain_inv
  blk := drain_blk
end Go.Proofs.YtcgfknpobifecaaGreat

namespace Go.Proofs.YtcgfknpobifecaaGreat
open Go.RowKit

/-- The memory as its nodes are freed. -/
def passM (m : MemS) : MemS := { m with waiting := [], cells := m.cells.set 0 (IntKind.u64.wrap (m.cells.getD 0 0 + 1)) }
def ws0 (k : Nat) : WaitS := ⟨k, 0, 0, 0⟩
theorem dr_one {m m' : MemS} {s s' : DrainS} (hr : drainReady m s = true) (h : drainStep m s = (m', s', false)) : GoN (frReady drainReady) (frStep drainStep) 1 (m, s) (m', s') := by
  refine ⟨hr, by show (drainStep m s).2.2 = false; rw [h], ?_⟩
  show ((drainStep m s).1, (drainStep m s).2.1) = (m', s')
  rw [h]
theorem dr_end {m m' : MemS} {s s' : DrainS} (hr : drainReady m s = true) (h : drainStep m s = (m', s', true)) (f n : Nat) : finM (frReady drainReady) (frStep drainStep) (f + 1) n (m, s) = (n + 1, true, m', s') := by
  rw [finM_end (r := frReady drainReady) (st := frStep drainStep) (s := (m, s)) hr (by show (drainStep m s).2.2 = true; rw [h])]
  show (_, _, (drainStep m s).1, (drainStep m s).2.1) = _
  rw [h]
theorem dr_frees {wb : Nat} {ws : WaitS} : ∀ (W : List Int) (m : MemS) (f n : Nat), W ≠ [] → finM (frReady drainReady) (frStep drainStep) (f + W.length) n (m, ⟨wb, W, ws, true, true⟩) = (n + W.length, true, W.foldl freeM m, ⟨wb, [], ws, true, true⟩)
  | [], _, _, _, h => absurd rfl h
  | [x], m, f, n, _ => dr_end (s := ⟨wb, [x], ws, true, true⟩) (s' := ⟨wb, [], ws, true, true⟩) rfl (by simp [drainStep]) f n
  | x :: y :: W, m, f, n, _ => by
    have e : drainStep m ⟨wb, x :: y :: W, ws, true, true⟩ = (freeM m x, ⟨wb, y :: W, ws, true, true⟩, false) := by simp [drainStep]
    rw [show f + (x :: y :: W).length = f + (y :: W).length + 1 by simp; omega, finM_go (dr_one rfl e) (f + (y :: W).length) n, dr_frees (y :: W) (freeM m x) f (n + 1) (by simp)]
    rw [show n + 1 + (y :: W).length = n + (x :: y :: W).length by simp; omega]
    rfl
theorem drain_run {m : MemS} {wb k : Nat} (hw : m.waiting ≠ []) (h2 : m.workers = 2) (hl : m.locks.getD 0 0 = -1) (hi0 : inCell m 0 = 0) (hi1 : inCell m 1 = 0) (f : Nat) :
    finM (frReady drainReady) (frStep drainStep) (f + (m.waiting.length + 6)) 0 (m, ⟨wb, [], ws0 k, false, false⟩) = (6 + m.waiting.length, true, m.waiting.foldl freeM (passM m), ⟨wb, [], ⟨k, 3, IntKind.u64.wrap (m.cells.getD 0 0 + 1), 2⟩, true, true⟩) := by
  obtain ⟨W, hW⟩ : ∃ W, m.waiting = W := ⟨_, rfl⟩
  have hl0 : 0 < m.locks.length := by
    rcases Nat.eq_zero_or_pos m.locks.length with h | h
    · rw [List.getD_eq_getElem?_getD, List.getElem?_eq_none (by omega)] at hl; cases hl
    · exact h
  obtain ⟨p, hp⟩ : ∃ p, IntKind.u64.wrap (m.cells.getD 0 0 + 1) = p := ⟨_, rfl⟩
  have hWl : 0 < m.waiting.length := List.length_pos_iff.2 hw
  let mA : MemS := { m with waiting := [] }
  let mB : MemS := { mA with locks := m.locks.set 0 (k : Int) }
  let mC : MemS := { mB with cells := m.cells.set 0 p }
  have hlk : mC.locks.getD 0 0 = (k : Int) := by
    show (m.locks.set 0 (k : Int)).getD 0 0 = _
    simp [hl0]
  have hc : ∀ i, inCell mC i = inCell m i := fun i => by
    show (m.cells.set 0 p).getD (2 + i) 0 = m.cells.getD (2 + i) 0
    rw [List.getD_eq_getElem?_getD, List.getElem?_set_ne (by omega), ← List.getD_eq_getElem?_getD]
  have e1 : drainStep m ⟨wb, [], ws0 k, false, false⟩ = (mA, ⟨wb, W, ws0 k, true, false⟩, false) := by
    rw [drainStep, if_neg (show ¬ (false = true) by decide), hW]
  have w1 : waitStep mA (ws0 k) = (mB, ⟨k, 1, 0, 0⟩, false) := by
    rw [waitStep, if_pos (show (ws0 k).at_ = 0 from rfl), if_pos (show mA.locks.getD 0 0 = -1 from hl)]
    rfl
  have w2 : waitStep mB ⟨k, 1, 0, 0⟩ = (mC, ⟨k, 2, p, 0⟩, false) := by
    rw [waitStep, if_neg (show ¬ (1 : Nat) = 0 by decide), if_pos rfl]
    show (({ mB with cells := m.cells.set 0 (IntKind.u64.wrap (m.cells.getD 0 0 + 1)) } : MemS), (⟨k, 2, IntKind.u64.wrap (m.cells.getD 0 0 + 1), 0⟩ : WaitS), false) = _
    rw [hp]
  have p0 : waitPassed mC ⟨k, 2, p, 0⟩ = true := by
    rw [waitPassed, show inCell mC (⟨k, 2, p, 0⟩ : WaitS).next = 0 from (hc 0).trans hi0]
    rfl
  have p1 : waitPassed mC ⟨k, 2, p, 1⟩ = true := by
    rw [waitPassed, show inCell mC (⟨k, 2, p, 1⟩ : WaitS).next = 0 from (hc 1).trans hi1]
    rfl
  have hwk : mC.workers = 2 := h2
  have w3 : waitStep mC ⟨k, 2, p, 0⟩ = (mC, ⟨k, 2, p, 1⟩, false) := by
    rw [waitStep, if_neg (show ¬ (2 : Nat) = 0 by decide), if_neg (show ¬ (2 : Nat) = 1 by decide), if_pos rfl]
    dsimp only
    rw [p0, if_pos rfl, hwk]
    rfl
  have w4 : waitStep mC ⟨k, 2, p, 1⟩ = (mC, ⟨k, 3, p, 2⟩, false) := by
    rw [waitStep, if_neg (show ¬ (2 : Nat) = 0 by decide), if_neg (show ¬ (2 : Nat) = 1 by decide), if_pos rfl]
    dsimp only
    rw [p1, if_pos rfl, hwk]
    rfl
  have w5 : waitStep mC ⟨k, 3, p, 2⟩ = (passM m, ⟨k, 3, p, 2⟩, true) := by
    rw [waitStep, if_neg (show ¬ (3 : Nat) = 0 by decide), if_neg (show ¬ (3 : Nat) = 1 by decide), if_neg (show ¬ (3 : Nat) = 2 by decide), if_pos hlk]
    show (({ mC with locks := (m.locks.set 0 (k : Int)).set 0 (-1) } : MemS), _, _) = _
    rw [lock_back _ hl, passM, hp]
  have d : ∀ (M M' : MemS) (a a' : WaitS), waitStep M a = (M', a', false) → drainStep M ⟨wb, W, a, true, false⟩ = (M', ⟨wb, W, a', true, false⟩, false) := fun M M' a a' h => by
    rw [drainStep, if_pos rfl, if_neg (show ¬ (false = true) by decide)]
    dsimp only
    rw [h]
    rfl
  have hWn : W ≠ [] := by rw [← hW]; exact hw
  have d5 : drainStep mC ⟨wb, W, ⟨k, 3, p, 2⟩, true, false⟩ = (passM m, ⟨wb, W, ⟨k, 3, p, 2⟩, true, true⟩, false) := by
    rw [drainStep, if_pos rfl, if_neg (show ¬ (false = true) by decide)]
    dsimp only
    rw [w5]
    simp [hWn]
  have r1 : drainReady mA ⟨wb, W, ws0 k, true, false⟩ = true := by
    show waitReady mA (ws0 k) = true
    rw [waitReady, if_pos (show (ws0 k).at_ = 0 from rfl), show mA.locks.getD 0 0 = -1 from hl]
    rfl
  have r3 : ∀ a, waitPassed mC a = true → a.at_ = 2 → drainReady mC ⟨wb, W, a, true, false⟩ = true := fun a h h3 => by
    show waitReady mC a = true
    rw [waitReady, if_neg (by omega), if_pos h3, h]
  have g := ((((((dr_one (s := ⟨wb, [], ws0 k, false, false⟩) (by show decide (0 < m.waiting.length) = true; exact decide_eq_true hWl) e1).add (dr_one r1 (d _ _ _ _ w1))).add (dr_one (s := ⟨wb, W, ⟨k, 1, 0, 0⟩, true, false⟩) rfl (d _ _ _ _ w2))).add (dr_one (r3 _ p0 rfl) (d _ _ _ _ w3))).add (dr_one (r3 _ p1 rfl) (d _ _ _ _ w4))).add (dr_one (s := ⟨wb, W, ⟨k, 3, p, 2⟩, true, false⟩) rfl d5))
  rw [hW, ← Nat.add_assoc, finM_go g (f + W.length) 0, dr_frees W _ f _ hWn, hp]
/-- A node that waits is freed. -/
theorem MapM.free1 {m : MemS} {n base : Nat} {chs : Nat → List Int} {want : List Pk} {x : Int} {W : List Int} (h : MapM { m with waiting := x :: W } n base chs want) (hg : m.gen + 1 ≤ 1000000) : MapM { freeM m x with waiting := W } n base chs want := by
  have hp : Pool m.ss (nodesC n chs ++ x :: W) := h.pool
  have hx := (hp.live x (List.mem_append.2 (.inr List.mem_cons_self))).1
  obtain ⟨i, hi, hil, _⟩ := atA_lt m.ss x hx
  have e : freeM m x = { m with ss := m.ss.set i (freed (m.ss.getD i slot0)), gen := m.gen + 1 } := by
    rw [freeM, if_pos hx, hi, Int.toNat_natCast]
  have hp2 : Pool m.ss (x :: (nodesC n chs ++ W)) := hp.perm List.perm_middle.symm
  have hne : ∀ y ∈ nodesC n chs, y % 65536 ≠ i + 1 := fun y hy => live_apart hx (hp.live y (List.mem_append.2 (.inl hy))).1 (fun e => (List.nodup_cons.1 hp2.nd).1 (by rw [← e]; exact List.mem_append.2 (.inl hy))) hi
  rw [e]
  refine ⟨h.pw, h.n0, h.tab, h.lo, h.hi, fun B hB => (h.chain B hB).set fun y hy => hne y (mem_nodesC.2 ⟨B, hB, hy⟩), fun B hB y hy => ?_, hp2.free hi, ?_, h.keys, h.locks, h.fault, by dsimp only; rw [List.length_set]; exact h.len, ⟨h.gen.1.give i, hg⟩⟩
  · have hr := h.right B hB y hy
    dsimp only at hr ⊢
    rw [rdNd_set (hne y (mem_nodesC.2 ⟨B, hB, hy⟩))]
    exact hr
  · rw [List.map_congr_left (g := entC m.ss) fun y hy => by unfold entC; dsimp only; rw [rdNd_set (hne y hy)]]
    exact h.ents
theorem freeM_same (m : MemS) (x : Int) : (freeM m x).b = m.b ∧ (freeM m x).cb = m.cb ∧ (freeM m x).lb = m.lb ∧ (freeM m x).ab = m.ab ∧ (freeM m x).workers = m.workers ∧ (freeM m x).tables = m.tables ∧ (freeM m x).cells = m.cells ∧ (freeM m x).ss.length = m.ss.length ∧ (freeM m x).gen ≤ m.gen + 1 ∧ (freeM m x).waiting = m.waiting := by
  unfold freeM
  split
  · exact ⟨rfl, rfl, rfl, rfl, rfl, rfl, rfl, List.length_set .., Nat.le_refl _, rfl⟩
  · exact ⟨rfl, rfl, rfl, rfl, rfl, rfl, rfl, rfl, Nat.le_succ _, rfl⟩
theorem MapM.frees {n base : Nat} {chs : Nat → List Int} {want : List Pk} : ∀ (W : List Int) (m : MemS), MapM { m with waiting := W } n base chs want → m.waiting = [] → m.gen + W.length ≤ 1000000 →
    MapM (W.foldl freeM m) n base chs want ∧ (W.foldl freeM m).b = m.b ∧ (W.foldl freeM m).workers = m.workers ∧ (W.foldl freeM m).cells = m.cells ∧ (W.foldl freeM m).ss.length = m.ss.length ∧ (W.foldl freeM m).gen ≤ m.gen + W.length ∧ (W.foldl freeM m).waiting = []
  | [], m, h, hw, _ => by
    have e : ({ m with waiting := [] } : MemS) = m := by rw [← hw]
    rw [e] at h
    exact ⟨h, rfl, rfl, rfl, rfl, Nat.le_refl _, hw⟩
  | x :: W, m, h, hw, hg => by
    rw [List.length_cons] at hg
    obtain ⟨s1, _, _, _, s5, _, s7, s8, s9, s10⟩ := freeM_same m x
    obtain ⟨r1, r2, r3, r4, r5, r6, r7⟩ := MapM.frees W (freeM m x) (h.free1 (by omega)) (s10.trans hw) (by omega)
    exact ⟨r1, r2.trans s1, r3.trans s5, r4.trans s7, r5.trans s8, by rw [List.length_cons]; show (W.foldl freeM (freeM m x)).gen ≤ _; omega, r7⟩
/-- The memory ahead of the frees still holds the map. -/
theorem MapM.pass {m : MemS} {n base : Nat} {chs : Nat → List Int} {want : List Pk} (h : MapM m n base chs want) : MapM { passM m with waiting := m.waiting } n base chs want := by
  have hlo := h.lo
  have hc : ∀ i, i ≠ 0 → (passM m).cells.getD i 0 = m.cells.getD i 0 := fun i hi => getD_set_no' _ _ (Ne.symm hi)
  refine ⟨h.pw, h.n0, ?_, h.lo, by show _ ≤ (m.cells.set 0 _).length; rw [List.length_set]; exact h.hi, fun B hB => ?_, h.right, h.pool, h.ents, h.keys, h.locks, h.fault, h.len, h.gen⟩
  · show descOf _ (wrap64 ((passM m).cells.getD 1 0)) = _
    rw [hc 1 (by decide)]
    exact h.tab
  · show Chn m.ss ((passM m).cells.getD (base + B) 0) _
    rw [hc _ (by omega)]
    exact h.chain B hB
end Go.Proofs.YtcgfknpobifecaaGreat
