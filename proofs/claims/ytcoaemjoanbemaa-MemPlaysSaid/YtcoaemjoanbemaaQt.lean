/- Package qsbr: Step and Ready of its frames, In, and what makes them. Condition: the memory and the frame are there. -/
import Derived.Test.YtcoaemjoanbemaaQs
import Derived.Test.YtcoaemjoanbemaaMf
import Derived.StillTailTactics
namespace Go.Proofs.Ytcoaemjoanbemaa
open Go.RowKit

section
variable {l : List KObj} {w : World} {t u b : Nat} {m : MemS} {s : WaitS}
set_option maxHeartbeats 800000 in
theorem wait_step (h : R l w) (ht : l[t]? = some (MemK m)) (hu : l[u]? = some (WaitK b s)) (hne : t ≠ u) (hok : WaitOk m s) :
    Calls Try.prog 104 #[.pointer (some ⟨b, 0, none⟩), .pointer (some ⟨m.b, 0, none⟩)] w (Does ((l.set t (MemK (waitStep m s).1)).set u (WaitK b (waitStep m s).2.1)) (.bool (waitStep m s).2.2)) := by
  have hs := h.wait hu
  have hlt := lt_of_blk hs
  have h1 := h.alloc (.cells #[.func (.func 106) #[] #[], .func (.func 107) #[] #[], .func (.func 108) #[] #[], .func (.func 109) #[] #[]] 167)
  rcases (by have := hok.at_; omega : s.at_ = 0 ∨ s.at_ = 1 ∨ s.at_ = 2 ∨ s.at_ = 3) with h0 | h0 | h0 | h0
  · have hc := hide (wait_take h1 ht hu hne hok h0)
    rw [h0] at hs
    clear h h1 hok
    go_enter Try.func104, Try.ntmps104
    go_wp2_with fail
    refine hc.out.mono ?_
    rintro e w2 ⟨rfl, h2⟩
    replace h2 := hide h2
    go_wp2
    go_ret
    exact ⟨rfl, h2.out⟩
  · have hc := hide (wait_add h1 ht hu hne h0)
    rw [h0] at hs
    clear h h1 hok
    go_enter Try.func104, Try.ntmps104
    go_wp2_with fail
    refine hc.out.mono ?_
    rintro e w2 ⟨rfl, h2⟩
    replace h2 := hide h2
    go_wp2
    go_ret
    exact ⟨rfl, h2.out⟩
  · have hc := hide (wait_look h1 ht hu hne hok h0)
    rw [h0] at hs
    clear h h1 hok
    go_enter Try.func104, Try.ntmps104
    go_wp2_with fail
    refine hc.out.mono ?_
    rintro e w2 ⟨rfl, h2⟩
    replace h2 := hide h2
    go_wp2
    go_ret
    exact ⟨rfl, h2.out⟩
  · have hc := hide (wait_free h1 ht hu hne h0)
    rw [h0] at hs
    clear h h1 hok
    go_enter Try.func104, Try.ntmps104
    go_wp2_with fail
    refine hc.out.mono ?_
    rintro e w2 ⟨rfl, h2⟩
    replace h2 := hide h2
    go_wp2
    go_ret
    exact ⟨rfl, h2.out⟩

set_option maxHeartbeats 400000 in
theorem wait_ready (h : R l w) (ht : l[t]? = some (MemK m)) (hu : l[u]? = some (WaitK b s)) (hok : WaitOk m s) :
    Calls Try.prog 103 #[.pointer (some ⟨b, 0, none⟩), .pointer (some ⟨m.b, 0, none⟩)] w (Does l (.bool (waitReady m s))) := by
  have hs := h.wait hu
  obtain ⟨tv, wv, hm⟩ := h.memHdr ht
  rcases (by have := hok.at_; omega : s.at_ = 0 ∨ s.at_ = 2 ∨ (s.at_ = 1 ∨ s.at_ = 3)) with h0 | h0 | h0
  · have e : waitReady m s = decide (m.locks.getD 0 0 < 0) := by rw [waitReady, if_pos h0]
    rw [e]
    have hc := hide (memR_holder h ht 0 (by decide) (by decide))
    rw [show (0 : Int).toNat = 0 from rfl] at hc
    generalize m.locks.getD 0 0 = x at *
    rw [h0] at hs
    replace h := hide h
    clear hok e
    go_enter Try.func103, Try.ntmps103
    go_wp2_with fail
    refine hc.out.mono ?_
    rintro e w2 ⟨rfl, rfl⟩
    go_wp2
    go_ret
    exact ⟨rfl, h.out⟩
  · have e : waitReady m s = waitPassed m s := by rw [waitReady, if_neg (by omega), if_pos h0]
    rw [e]
    have hc := hide (wait_passed h ht hu hok (hok.next h0))
    rw [h0] at hs
    clear hok e h
    go_enter Try.func103, Try.ntmps103
    go_wp2_with fail
    refine hc.out.mono ?_
    rintro e w2 ⟨rfl, h2⟩
    replace h2 := hide h2
    go_wp2
    go_ret
    exact ⟨rfl, h2.out⟩
  · have e : waitReady m s = true := by rw [waitReady, if_neg (by omega), if_neg (by omega)]
    rw [e]
    replace h := hide h
    clear hok e hm
    rcases h0 with h0 | h0
    all_goals
      rw [h0] at hs
      go_enter Try.func103, Try.ntmps103
      go_wp2
      go_ret
      exact ⟨rfl, h.out⟩

set_option maxHeartbeats 400000 in
theorem qsbr_sync (h : R l w) (k : Nat) : Calls Try.prog 38 #[.int .i64 k] w fun e w' => ∃ b, e = .returned (.pointer (some ⟨b, 0, none⟩)) ∧ R (l ++ [WaitK b ⟨k, 0, 0, 0⟩]) w' := by
  have hn := hide (h.new #[.int .i64 k, .int .i64 0, .int .u64 0, .int .i64 0] 123)
  clear h
  go_enter Try.func38, Try.ntmps38
  go_wp2
  go_ret
  exact ⟨_, rfl, hn.out⟩

/-- A worker that comes in. -/
structure ComeS where
  worker : Nat
  loaded : Bool
  period : Int
def ComeK (b : Nat) (s : ComeS) : KObj := StK b #[.int .i64 s.worker, .bool s.loaded, .int .u64 s.period] 126
/-- A worker that goes out. -/
def GoneK (b k : Nat) : KObj := StK b #[.int .i64 k] 128
set_option maxHeartbeats 400000 in
theorem qsbr_enter (h : R l w) (k : Nat) : Calls Try.prog 40 #[.int .i64 k] w fun e w' => ∃ b, e = .returned (.pointer (some ⟨b, 0, none⟩)) ∧ R (l ++ [ComeK b ⟨k, false, 0⟩]) w' := by
  have hn := hide (h.new #[.int .i64 k, .bool false, .int .u64 0] 126)
  clear h
  go_enter Try.func40, Try.ntmps40
  go_wp2
  go_ret
  exact ⟨_, rfl, hn.out⟩
set_option maxHeartbeats 400000 in
theorem qsbr_leave (h : R l w) (k : Nat) : Calls Try.prog 41 #[.int .i64 k] w fun e w' => ∃ b, e = .returned (.pointer (some ⟨b, 0, none⟩)) ∧ R (l ++ [GoneK b k]) w' := by
  have hn := hide (h.new #[.int .i64 k] 128)
  clear h
  go_enter Try.func41, Try.ntmps41
  go_wp2
  go_ret
  exact ⟨_, rfl, hn.out⟩

set_option maxHeartbeats 400000 in
theorem qsbr_in (h : R l w) (ht : l[t]? = some (MemK m)) (k : Nat) (hk : k < m.workers) :
    Calls Try.prog 39 #[.pointer (some ⟨m.b, 0, none⟩), .int .i64 k] w (Does l (.bool (decide (inCell m k ≠ 0)))) := by
  obtain ⟨tv, wv, hm⟩ := h.memHdr ht
  have hmo := h.memOk ht
  have hld := hide fun j => memR_load (h.drewN j) ht (2 + (k : Int)) (by omega) (by have := hmo.cells3; omega)
  rw [show (2 + (k : Int)).toNat = 2 + k by omega] at hld
  have hcnt := hide fun j => mem_counter k (by omega) (by have := hmo.work; omega) (w.drewN j)
  have hr := hide fun j => h.drewN j
  unfold inCell
  generalize m.cells.getD (2 + k) 0 = v at *
  clear hmo h
  go_enter Try.func39, Try.ntmps39
  go_wp2_with fail
  go_quiet (first | exact quiet_left (hcnt.out _) | exact quiet_left (hld.out _))
  go_wp2
  go_ret
  refine ⟨?_, hr.out _⟩
  congr 2
  by_cases h0 : v = 0 <;> simp [h0]

def comeStep (m : MemS) (s : ComeS) : MemS × ComeS × Bool :=
  if s.loaded then ({ m with cells := m.cells.set (2 + s.worker) s.period }, s, true) else (m, { s with loaded := true, period := m.cells.getD 0 0 }, false)
set_option maxRecDepth 100000 in
set_option maxHeartbeats 800000 in
theorem come_step {s : ComeS} (h : R l w) (ht : l[t]? = some (MemK m)) (hu : l[u]? = some (ComeK b s)) (hne : t ≠ u) (hk : s.worker < m.workers) (hp : U64 s.period) :
    Calls Try.prog 111 #[.pointer (some ⟨b, 0, none⟩), .pointer (some ⟨m.b, 0, none⟩)] w (Does ((l.set t (MemK (comeStep m s).1)).set u (ComeK b (comeStep m s).2.1)) (.bool (comeStep m s).2.2)) := by
  obtain ⟨k, ld, p⟩ := s
  have hs := h.st hu
  dsimp only at hs hk hp
  obtain ⟨tv, wv, hm⟩ := h.memHdr ht
  have hmo := h.memOk ht
  cases ld
  · have e : comeStep m ⟨k, false, p⟩ = (m, ⟨k, true, m.cells.getD 0 0⟩, false) := rfl
    rw [e]
    dsimp only
    rw [set_same ht]
    have hld := hide (memR_load h ht 0 (by decide) (by have := hmo.cells3; omega))
    rw [show (0 : Int).toNat = 0 from rfl] at hld
    generalize m.cells.getD 0 0 = v at *
    have hp2 := hide ((h.put hu 2 (.int .u64 v)).put (set_get hu) 1 (.bool true))
    clear hmo h e
    go_enter Try.func111, Try.ntmps111
    go_wp2_with fail
    refine hld.out.mono ?_
    rintro e w2 ⟨rfl, rfl⟩
    go_wp2
    go_ret
    have := hp2.out
    rw [List.set_set] at this
    exact ⟨rfl, this⟩
  · have e : comeStep m ⟨k, true, p⟩ = ({ m with cells := m.cells.set (2 + k) p }, ⟨k, true, p⟩, true) := rfl
    rw [e]
    dsimp only
    have hst := hide fun j => memR_store (h.drewN j) ht (2 + (k : Int)) p (by omega) (by have := hmo.cells3; omega) hp
    rw [show (2 + (k : Int)).toNat = 2 + k by omega] at hst
    have hcnt := hide fun j => mem_counter k (by omega) (by have := hmo.work; omega) (w.drewN j)
    have hu2 := set_other (q := MemK { m with cells := m.cells.set (2 + k) p }) hu hne
    rw [set_same hu2]
    clear hmo h e hu2
    go_enter Try.func111, Try.ntmps111
    go_wp2_with fail
    go_still_tail 13, (by kernel_rfl)
    still_call ((hcnt.out 1).mono fun _ _ h => ⟨h.1, h.2.symm⟩)
    repeat still_step
    refine wpStill_nil ?_
    go_wp2_with fail
    refine (hst.out 1).mono ?_
    rintro e w2 ⟨rfl, h2⟩
    replace h2 := hide h2
    go_wp2
    go_ret
    exact ⟨rfl, h2.out⟩
def goneStep (m : MemS) (k : Nat) : MemS := { m with cells := m.cells.set (2 + k) 0 }
set_option maxRecDepth 100000 in
set_option maxHeartbeats 800000 in
theorem gone_step {k : Nat} (h : R l w) (ht : l[t]? = some (MemK m)) (hu : l[u]? = some (GoneK b k)) (hk : k < m.workers) :
    Calls Try.prog 42 #[.pointer (some ⟨b, 0, none⟩), .pointer (some ⟨m.b, 0, none⟩)] w (Does (l.set t (MemK (goneStep m k))) (.bool true)) := by
  have hs := h.st hu
  obtain ⟨tv, wv, hm⟩ := h.memHdr ht
  have hmo := h.memOk ht
  have hst := hide fun j => memR_store (h.drewN j) ht (2 + (k : Int)) 0 (by omega) (by have := hmo.cells3; omega) ⟨by decide, by decide⟩
  rw [show (2 + (k : Int)).toNat = 2 + k by omega] at hst
  have hcnt := hide fun j => mem_counter k (by omega) (by have := hmo.work; omega) (w.drewN j)
  clear hmo h
  go_enter Try.func42, Try.ntmps42
  go_wp2_with fail
  go_still_tail 9, (by kernel_rfl)
  still_call ((hcnt.out 1).mono fun _ _ h => ⟨h.1, h.2.symm⟩)
  repeat still_step
  refine wpStill_nil ?_
  go_wp2_with fail
  refine (hst.out 1).mono ?_
  rintro e w2 ⟨rfl, h2⟩
  replace h2 := hide h2
  go_wp2
  go_ret
  exact ⟨rfl, h2.out⟩
theorem come_ready (a p : Value) (w : World) : Calls Try.prog 110 #[a, p] w fun e w' => e = .returned (.bool true) ∧ w = w' := by
  go_enter Try.func110, Try.ntmps110
  go_wp2
  go_ret
  exact ⟨rfl, rfl⟩
theorem gone_ready (a p : Value) (w : World) : Calls Try.prog 112 #[a, p] w fun e w' => e = .returned (.bool true) ∧ w = w' := by
  go_enter Try.func112, Try.ntmps112
  go_wp2
  go_ret
  exact ⟨rfl, rfl⟩
theorem wait_frame (b : Nat) : FrameAt 82 103 104 b := ⟨fun n w => by kernel_rfl, fun n w => by kernel_rfl, fun n w => by kernel_rfl, fun a w => by kernel_rfl, fun a w => by kernel_rfl, fun n w => by kernel_rfl⟩
theorem come_frame (b : Nat) : FrameAt 88 110 111 b := ⟨fun n w => by kernel_rfl, fun n w => by kernel_rfl, fun n w => by kernel_rfl, fun a w => by kernel_rfl, fun a w => by kernel_rfl, fun n w => by kernel_rfl⟩
theorem gone_frame (b : Nat) : FrameAt 90 112 42 b := ⟨fun n w => by kernel_rfl, fun n w => by kernel_rfl, fun n w => by kernel_rfl, fun a w => by kernel_rfl, fun a w => by kernel_rfl, fun n w => by kernel_rfl⟩
end
end Go.Proofs.Ytcoaemjoanbemaa
