/- Package qsbr: what its frames' steps come to. Condition: the memory and the frame are there. -/
import Derived.Test.YtcoaemjoanbemaaMq
import Derived.Deep.RegionWith
namespace Go.Proofs.Ytcoaemjoanbemaa
open Go.RowKit

/-- A worker that waits. -/
structure WaitS where
  worker : Nat
  at_ : Nat
  period : Int
  next : Nat
def WaitK (b : Nat) (s : WaitS) : KObj := StK b #[.int .i64 s.worker, .int .i64 s.at_, .int .u64 s.period, .int .i64 s.next] 123
def inCell (m : MemS) (k : Nat) : Int := m.cells.getD (2 + k) 0
def waitPassed (m : MemS) (s : WaitS) : Bool := decide (inCell m s.next = 0) || decide (s.period ≤ inCell m s.next)
def waitReady (m : MemS) (s : WaitS) : Bool := if s.at_ = 0 then decide (m.locks.getD 0 0 < 0) else if s.at_ = 2 then waitPassed m s else true
structure WaitOk (m : MemS) (s : WaitS) : Prop where
  at_ : s.at_ ≤ 3
  next : s.at_ = 2 → s.next < m.workers
  early : s.at_ ≤ 1 → s.next = 0
  small : s.next ≤ 8 ∧ s.worker ≤ 1000
  period : U64 s.period
def waitStep (m : MemS) (s : WaitS) : MemS × WaitS × Bool :=
  if s.at_ = 0 then (if m.locks.getD 0 0 = -1 then ({ m with locks := m.locks.set 0 s.worker }, { s with at_ := 1 }, false) else (m, s, false))
  else if s.at_ = 1 then ({ m with cells := m.cells.set 0 (IntKind.u64.wrap (m.cells.getD 0 0 + 1)) }, { s with at_ := 2, period := IntKind.u64.wrap (m.cells.getD 0 0 + 1) }, false)
  else if s.at_ = 2 then
    let n := if waitPassed m s then s.next + 1 else s.next
    (m, { s with next := n, at_ := if m.workers ≤ n then 3 else 2 }, false)
  else (if m.locks.getD 0 0 = s.worker then { m with locks := m.locks.set 0 (-1) } else m, s, true)

section
variable {l : List KObj} {w : World} {t u b : Nat} {m : MemS} {s : WaitS}
theorem R.wait (h : R l w) (hu : l[u]? = some (WaitK b s)) : blk w b = some (.cells #[.int .i64 s.worker, .int .i64 s.at_, .int .u64 s.period, .int .i64 s.next] 123 (0, 0)) := h.st hu

set_option maxHeartbeats 400000 in
theorem wait_take (h : R l w) (ht : l[t]? = some (MemK m)) (hu : l[u]? = some (WaitK b s)) (hne : t ≠ u) (hok : WaitOk m s) (h0 : s.at_ = 0) :
    Calls Try.prog 106 #[.pointer (some ⟨b, 0, none⟩), .pointer (some ⟨m.b, 0, none⟩)] w (Does ((l.set t (MemK (waitStep m s).1)).set u (WaitK b (waitStep m s).2.1)) (.bool (waitStep m s).2.2)) := by
  obtain ⟨tv, wv, hm⟩ := h.memHdr ht
  have hs := h.wait hu
  rw [h0] at hs
  by_cases hf : m.locks.getD 0 0 = -1
  · have e : waitStep m s = ({ m with locks := m.locks.set 0 s.worker }, { s with at_ := 1 }, false) := by rw [waitStep, if_pos h0, if_pos hf]
    rw [e]
    have htry := hide (memR_try (h.drewN 1) ht 0 s.worker (by decide) (by decide) (by omega) (by have := hok.small; omega) hf)
    have hu2 := set_other (q := MemK { m with locks := m.locks.set (0 : Int).toNat s.worker }) hu hne
    clear hok e hf h
    go_enter Try.func106, Try.ntmps106
    go_wp2_with fail
    go_region_with (go_at_call 77; refine htry.out.mono ?_; rintro e w2 ⟨rfl, h2⟩)
    all_goals
      have hs2 := h2.wait hu2
      rw [h0] at hs2
      have hp := hide (h2.put hu2 1 (.int .i64 1))
      clear h2 hs hm htry
      go_wp2
      go_ret
      exact ⟨rfl, hp.out⟩
  · have e : waitStep m s = (m, s, false) := by rw [waitStep, if_pos h0, if_neg hf]
    rw [e]
    have htry := hide (memR_try_held (h.drewN 1) ht 0 s.worker (by decide) (by decide) (by omega) hf)
    have hr := hide (h.drewN 1)
    have es : (l.set t (MemK m)).set u (WaitK b s) = l := by rw [set_same ht, set_same hu]
    rw [es]
    clear hok e hf h es
    go_enter Try.func106, Try.ntmps106
    go_wp2_with fail
    go_region_with (go_at_call 77; refine htry.out.mono ?_; rintro e w2 ⟨rfl, rfl⟩)
    all_goals
      go_wp2
      go_ret
      exact ⟨rfl, hr.out⟩

set_option maxHeartbeats 400000 in
theorem wait_add (h : R l w) (ht : l[t]? = some (MemK m)) (hu : l[u]? = some (WaitK b s)) (hne : t ≠ u) (h0 : s.at_ = 1) :
    Calls Try.prog 107 #[.pointer (some ⟨b, 0, none⟩), .pointer (some ⟨m.b, 0, none⟩)] w (Does ((l.set t (MemK (waitStep m s).1)).set u (WaitK b (waitStep m s).2.1)) (.bool (waitStep m s).2.2)) := by
  obtain ⟨tv, wv, hm⟩ := h.memHdr ht
  have hok := h.memOk ht
  have e : waitStep m s = ({ m with cells := m.cells.set 0 (IntKind.u64.wrap (m.cells.getD 0 0 + 1)) }, { s with at_ := 2, period := IntKind.u64.wrap (m.cells.getD 0 0 + 1) }, false) := by rw [waitStep, if_neg (by omega), if_pos h0]
  rw [e]
  have hadd := hide (memR_add h ht 0 1 (by decide) (by have := hok.cells3; omega))
  rw [show (0 : Int).toNat = 0 from rfl] at hadd
  generalize IntKind.u64.wrap (m.cells.getD 0 0 + 1) = v at *
  have hu2 := set_other (q := MemK { m with cells := m.cells.set 0 v }) hu hne
  clear hok e h
  go_enter Try.func107, Try.ntmps107
  go_wp2_with fail
  refine hadd.out.mono ?_
  rintro e w2 ⟨rfl, h2⟩
  have hs2 := h2.wait hu2
  rw [h0] at hs2
  have hp := hide ((h2.put hu2 2 (.int .u64 v)).put (set_get hu2) 1 (.int .i64 2))
  clear h2 hm hadd
  go_wp2
  go_ret
  have := hp.out
  rw [List.set_set, h0] at this
  exact ⟨rfl, this⟩

set_option maxHeartbeats 400000 in
theorem wait_passed (h : R l w) (ht : l[t]? = some (MemK m)) (hu : l[u]? = some (WaitK b s)) (hok : WaitOk m s) (hn : s.next < m.workers) :
    Calls Try.prog 105 #[.pointer (some ⟨b, 0, none⟩), .pointer (some ⟨m.b, 0, none⟩)] w (Does l (.bool (waitPassed m s))) := by
  obtain ⟨tv, wv, hm⟩ := h.memHdr ht
  have hs := h.wait hu
  have hmo := h.memOk ht
  have hld := hide fun k => memR_load (h.drewN k) ht (2 + (s.next : Int)) (by omega) (by have := hmo.cells3; omega)
  rw [show (2 + (s.next : Int)).toNat = 2 + s.next by omega] at hld
  have hv := hmo.cell (2 + s.next)
  have hper := hok.period
  have hsm := hok.small.1
  unfold waitPassed inCell
  generalize m.cells.getD (2 + s.next) 0 = v at *
  obtain ⟨hv0, hv1⟩ := hv
  obtain ⟨hp0, hp1⟩ := hper
  have hcnt := hide fun k => mem_counter s.next (by omega) (by omega) (w.drewN k)
  have hr := hide fun k => h.drewN k
  clear hok hmo h
  by_cases h0 : v = 0
  · subst h0
    go_enter Try.func105, Try.ntmps105
    go_wp2_with fail
    go_quiet (first | exact quiet_left (hcnt.out _) | exact quiet_left (hld.out _))
    go_wp2
    go_ret
    exact ⟨rfl, hr.out _⟩
  · have hv2 : (v == 0) = false := by simp [h0]
    by_cases h1 : s.period ≤ v
    · go_enter Try.func105, Try.ntmps105
      go_wp2_with fail
      go_quiet (first | exact quiet_left (hcnt.out _) | exact quiet_left (hld.out _))
      go_wp2
      go_ret
      exact ⟨by simp [h1], hr.out _⟩
    · go_enter Try.func105, Try.ntmps105
      go_wp2_with fail
      go_quiet (first | exact quiet_left (hcnt.out _) | exact quiet_left (hld.out _))
      go_wp2
      go_ret
      exact ⟨by simp [h0], hr.out _⟩

set_option maxHeartbeats 800000 in
theorem wait_look (h : R l w) (ht : l[t]? = some (MemK m)) (hu : l[u]? = some (WaitK b s)) (hne : t ≠ u) (hok : WaitOk m s) (h0 : s.at_ = 2) :
    Calls Try.prog 108 #[.pointer (some ⟨b, 0, none⟩), .pointer (some ⟨m.b, 0, none⟩)] w (Does ((l.set t (MemK (waitStep m s).1)).set u (WaitK b (waitStep m s).2.1)) (.bool (waitStep m s).2.2)) := by
  have hn := hok.next h0
  have hpass := hide (wait_passed h ht hu hok hn)
  have hsm := hok.small
  have hwk := (h.memOk ht).work
  have e : waitStep m s = (m, { s with next := if waitPassed m s then s.next + 1 else s.next, at_ := if m.workers ≤ (if waitPassed m s then s.next + 1 else s.next) then 3 else 2 }, false) := by rw [waitStep, if_neg (by omega), if_neg (by omega), if_pos h0]
  rw [e]
  dsimp only
  rw [set_same ht]
  have hs := h.wait hu
  rw [h0] at hs
  clear e
  cases hp : waitPassed m s
  · rw [hp] at hpass
    simp only [Bool.false_eq_true, if_false]
    rw [if_neg (by omega)]
    have he : ({ s with next := s.next, at_ := 2 } : WaitS) = s := by cases s; simp at h0; simp [h0]
    rw [he, set_same hu]
    clear h hok he hp
    go_enter Try.func108, Try.ntmps108
    go_wp2_with fail
    refine hpass.out.mono ?_
    rintro e w2 ⟨rfl, h2⟩
    have hs2 := h2.wait hu
    rw [h0] at hs2
    have hwk2 := hide fun k => mem_workers (h2.drewN k) ht
    replace h2 := hide h2
    have hlt : ¬ ((m.workers : Int) ≤ s.next) := by omega
    clear hs hpass
    go_wp2_with fail
    go_quiet (first | exact quiet_left (hwk2.out _))
    go_wp2
    go_ret
    exact ⟨rfl, h2.out.drewN _⟩
  · rw [hp] at hpass
    rw [if_pos rfl]
    by_cases hlast : m.workers ≤ s.next + 1
    · rw [if_pos hlast]
      clear h hok hp
      go_enter Try.func108, Try.ntmps108
      go_wp2_with fail
      refine hpass.out.mono ?_
      rintro e w2 ⟨rfl, h2⟩
      have hs2 := h2.wait hu
      rw [h0] at hs2
      have hp1 := h2.put hu 3 (.int .i64 (s.next + 1))
      have hst := hp1.st (set_get hu)
      rw [h0] at hst
      have hwk2 := hide fun k => mem_workers (hp1.drewN k) (set_other ht (by omega))
      have hp2 := hide fun k => (hp1.put (set_get hu) 1 (.int .i64 3)).drewN k
      have hp3 := hide fun k => (hp1.drewN k).put (set_get hu) 1 (.int .i64 3)
      have hlt : (m.workers : Int) ≤ s.next + 1 := by omega
      clear hs hpass h2 hp1
      go_wp2_with fail
      go_quiet (first | exact quiet_left (hwk2.out _))
      go_wp2
      go_ret
      have := hp3.out nq
      rw [List.set_set] at this
      exact ⟨rfl, this⟩
    · rw [if_neg hlast]
      clear h hok hp
      go_enter Try.func108, Try.ntmps108
      go_wp2_with fail
      refine hpass.out.mono ?_
      rintro e w2 ⟨rfl, h2⟩
      have hs2 := h2.wait hu
      rw [h0] at hs2
      have hp1 := h2.put hu 3 (.int .i64 (s.next + 1))
      have hst := hp1.st (set_get hu)
      rw [h0] at hst
      have hwk2 := hide fun k => mem_workers (hp1.drewN k) (set_other ht (by omega))
      have hp2 := hide fun k => hp1.drewN k
      have hlt : ¬ ((m.workers : Int) ≤ s.next + 1) := by omega
      clear hs hpass h2 hp1
      go_wp2_with fail
      go_quiet (first | exact quiet_left (hwk2.out _))
      go_wp2
      go_ret
      have := hp2.out nq
      rw [h0] at this
      exact ⟨rfl, this⟩

set_option maxHeartbeats 400000 in
theorem wait_free (h : R l w) (ht : l[t]? = some (MemK m)) (hu : l[u]? = some (WaitK b s)) (hne : t ≠ u) (h0 : s.at_ = 3) :
    Calls Try.prog 109 #[.pointer (some ⟨b, 0, none⟩), .pointer (some ⟨m.b, 0, none⟩)] w (Does ((l.set t (MemK (waitStep m s).1)).set u (WaitK b (waitStep m s).2.1)) (.bool (waitStep m s).2.2)) := by
  obtain ⟨tv, wv, hm⟩ := h.memHdr ht
  have hs := h.wait hu
  by_cases hf : m.locks.getD 0 0 = s.worker
  · have e : waitStep m s = ({ m with locks := m.locks.set 0 (-1) }, s, true) := by rw [waitStep, if_neg (by omega), if_neg (by omega), if_neg (by omega), if_pos hf]
    rw [e]
    have htry := hide (memR_unlock (h.drewN 1) ht 0 s.worker (by decide) (by decide) (by omega) hf)
    · have hu2 := set_other (q := MemK { m with locks := m.locks.set (0 : Int).toNat (-1) }) hu hne
      have es := set_same hu2
      rw [show (0 : Int).toNat = 0 from rfl] at es
      dsimp only
      rw [es]
      clear e hf h
      go_enter Try.func109, Try.ntmps109
      go_wp2_with fail
      go_region_with (go_at_call 78; refine htry.out.mono ?_; rintro e w2 ⟨rfl, h2⟩)
      all_goals
        replace h2 := hide h2
        go_wp2
        go_ret
        exact ⟨rfl, h2.out⟩
  · have e : waitStep m s = (m, s, true) := by rw [waitStep, if_neg (by omega), if_neg (by omega), if_neg (by omega), if_neg hf]
    rw [e]
    have htry := hide (memR_unlock_other (h.drewN 1) ht 0 s.worker (by decide) (by decide) (by omega) hf)
    have hr := hide (h.drewN 1)
    have es : (l.set t (MemK m)).set u (WaitK b s) = l := by rw [set_same ht, set_same hu]
    rw [es]
    clear e hf h es
    go_enter Try.func109, Try.ntmps109
    go_wp2_with fail
    go_region_with (go_at_call 78; refine htry.out.mono ?_; rintro e w2 ⟨rfl, rfl⟩)
    all_goals
      go_wp2
      go_ret
      exact ⟨rfl, hr.out⟩
end
end Go.Proofs.Ytcoaemjoanbemaa
