/- mem.Finish over any kind of frame whose Ready and Step are known. Condition: they are. Package qsbr: Step and Ready of its frames, In, and what makes them. Condition: the memory and the frame are there. What the statements of the package quietuslaw01 come to. No condition but that a text is no longer than a machine bears. -/
import Derived.Test.YtcgfknpobifecaaGreatMqm
import Derived.StillTailTactics
import Derived.Test.YtcgfknpobifecaaGreatFn
namespace Go.Proofs.YtcgfknpobifecaaGreat
open Go.RowKit

/-- What Finish comes to: how many steps, whether it was done, what is left. -/
def finM {σ : Type} (ready : σ → Bool) (step : σ → σ × Bool) : Nat → Nat → σ → Nat × Bool × σ
  | 0, n, s => (n, false, s)
  | k + 1, n, s => if ready s then (if (step s).2 then (n + 1, true, (step s).1) else finM ready step k (n + 1) (step s).1) else (n, false, s)

/-- A kind of frames: how its methods are found. -/
structure FrameAt (T : TypeId) (fR fS : FuncId) (b : Nat) : Prop where
  nr : ∀ n w, (nilAhead (n + 1) T (.pointer (some ⟨b, 0, none⟩)) "Ready").run Tryz.prog w = .ok (some false) w
  ns : ∀ n w, (nilAhead (n + 1) T (.pointer (some ⟨b, 0, none⟩)) "Step").run Tryz.prog w = .ok (some false) w
  mr : ∀ n w, (method (n + 1) T (.pointer (some ⟨b, 0, none⟩)) "Ready").run Tryz.prog w = .ok (fR, .pointer (some ⟨b, 0, none⟩)) w
  cr : ∀ a w, (callFunc fR a).run Tryz.prog w = .ok (.enter fR a) w
  cs : ∀ a w, (callFunc fS a).run Tryz.prog w = .ok (.enter fS a) w
  ms : ∀ n w, (method (n + 1) T (.pointer (some ⟨b, 0, none⟩)) "Step").run Tryz.prog w = .ok (fS, .pointer (some ⟨b, 0, none⟩)) w

set_option maxRecDepth 100000 in
set_option maxHeartbeats 1000000 in
theorem mem_finish {σ : Type} (St : σ → World → Prop) (ready : σ → Bool) (step : σ → σ × Bool) (mb b : Nat) (T : TypeId) (fR fS : FuncId) (F : FrameAt T fR fS b)
    (hr : ∀ s w, St s w → Calls Tryz.prog fR #[.pointer (some ⟨b, 0, none⟩), .pointer (some ⟨mb, 0, none⟩)] w fun e w' => e = .returned (.bool (ready s)) ∧ St s w')
    (hs : ∀ s w, St s w → ready s = true → Calls Tryz.prog fS #[.pointer (some ⟨b, 0, none⟩), .pointer (some ⟨mb, 0, none⟩)] w fun e w' => e = .returned (.bool (step s).2) ∧ St (step s).1 w')
    (most : Nat) (hm : most ≤ 1000000) (s : σ) (w : World) (h : St s w) :
    Calls Tryz.prog 17 #[.pointer (some ⟨mb, 0, none⟩), .iface T (.pointer (some ⟨b, 0, none⟩)), .int .i64 most] w
      fun e w' => e = .returned (.tuple #[.int .i64 (finM ready step most 0 s).1, .bool (finM ready step most 0 s).2.1]) ∧ St (finM ready step most 0 s).2.2 w' := by
  go_enter Tryz.func17, Tryz.ntmps17
  go_wp2_with fail
  go_loopw [10] (fun i wr => ∃ (k : Nat) (s' : σ), k ≤ most ∧ i = .int .i64 k ∧ St s' wr ∧ finM ready step most 0 s = finM ready step (most - k) k s')
    (fun i _ => most - (intOf i).toNat)
  case atStart => exact ⟨0, s, Nat.zero_le _, rfl, h, rfl⟩
  case round =>
    obtain ⟨k, s1, hk, rfl, h1, hf⟩ := hrel
    clear h
    by_cases hlt : k < most
    · obtain ⟨d, hd⟩ : ∃ d, most - k = d + 1 := ⟨most - k - 1, by omega⟩
      rw [hd] at hf
      have n1 := F.nr 324 wr
      have m1 := F.mr 324 wr
      have c1 := F.cr #[.pointer (some ⟨b, 0, none⟩), .pointer (some ⟨mb, 0, none⟩)] wr
      have hr1 := hide (hr s1 _ h1)
      cases hrd : ready s1 with
      | true =>
        rw [hrd] at hr1
        clear h1
        go_wp2_with fail
        refine hr1.out.mono ?_
        rintro e w2 ⟨rfl, h2⟩
        have hs1 := hide (hs s1 _ h2 hrd)
        have n2 := F.ns 324 w2
        have m2 := F.ms 324 w2
        have c2 := F.cs #[.pointer (some ⟨b, 0, none⟩), .pointer (some ⟨mb, 0, none⟩)] w2
        clear n1 m1 c1 hr1
        cases hsd : (step s1).2 with
        | true =>
          rw [hsd] at hs1
          go_wp2_with fail
          refine hs1.out.mono ?_
          rintro e w3 ⟨rfl, h3⟩
          have hres : finM ready step most 0 s = (k + 1, true, (step s1).1) := by rw [hf, finM, if_pos hrd, if_pos hsd]
          go_wp2
          go_ret2
          rw [hres]
          exact ⟨by go_num, h3⟩
        | false =>
          rw [hsd] at hs1
          go_wp2_with fail
          refine hs1.out.mono ?_
          rintro e w3 ⟨rfl, h3⟩
          have hres : finM ready step most 0 s = finM ready step (most - (k + 1)) (k + 1) (step s1).1 := by
            rw [hf, finM, if_pos hrd, if_neg (by rw [hsd]; decide)]
            congr 1
            omega
          go_wp2
          go_roundw
          case rel => exact ⟨k + 1, _, by omega, by go_num, h3, hres⟩
          case measure => simp [intOf]; omega
      | false =>
        rw [hrd] at hr1
        clear h1
        go_wp2_with fail
        refine hr1.out.mono ?_
        rintro e w2 ⟨rfl, h2⟩
        have hres : finM ready step most 0 s = (k, false, s1) := by rw [hf, finM, if_neg (by rw [hrd]; decide)]
        go_wp2
        go_ret2
        rw [hres]
        exact ⟨by go_num, h2⟩
    · obtain rfl : most = k := by omega
      rw [Nat.sub_self] at hf
      have hres : finM ready step most 0 s = (most, false, s1) := by rw [hf, finM]
      go_wp2
      go_ret2
      rw [hres]
      exact ⟨by go_num, h1⟩
end Go.Proofs.YtcgfknpobifecaaGreat

namespace Go.Proofs.YtcgfknpobifecaaGreat
open Go.RowKit

section
variable {l : List KObj} {w : World} {t u b : Nat} {m : MemS} {s : WaitS}
set_option maxHeartbeats 800000 in
theorem wait_step (h : R l w) (ht : l[t]? = some (MemK m)) (hu : l[u]? = some (WaitK b s)) (hne : t ≠ u) (hok : WaitOk m s) :
    Calls Tryz.prog 159 #[.pointer (some ⟨b, 0, none⟩), .pointer (some ⟨m.b, 0, none⟩)] w (Does ((l.set t (MemK (waitStep m s).1)).set u (WaitK b (waitStep m s).2.1)) (.bool (waitStep m s).2.2)) := by
  have hs := h.wait hu
  have hlt := lt_of_blk hs
  have h1 := h.alloc (.cells #[.func (.func 162) #[] #[], .func (.func 163) #[] #[], .func (.func 164) #[] #[], .func (.func 165) #[] #[]] 208)
  rcases (by have := hok.at_; omega : s.at_ = 0 ∨ s.at_ = 1 ∨ s.at_ = 2 ∨ s.at_ = 3) with h0 | h0 | h0 | h0
  · have hc := hide (wait_take h1 ht hu hne hok h0)
    rw [h0] at hs
    clear h h1 hok
    go_enter Tryz.func159, Tryz.ntmps159
    go_wp2_with fail
    refine hc.out.mono ?_
    rintro e w2 ⟨rfl, h2⟩
    replace h2 := hide h2
    go_wp2
    go_ret
    exact ⟨rfl, h2.out⟩
  · have hc := hide (wait_add h1 ht hu hne h0)
    rw [h0] at hs
    clear h h1 hok
    go_enter Tryz.func159, Tryz.ntmps159
    go_wp2_with fail
    refine hc.out.mono ?_
    rintro e w2 ⟨rfl, h2⟩
    replace h2 := hide h2
    go_wp2
    go_ret
    exact ⟨rfl, h2.out⟩
  · have hc := hide (wait_look h1 ht hu hne hok h0)
    rw [h0] at hs
    clear h h1 hok
    go_enter Tryz.func159, Tryz.ntmps159
    go_wp2_with fail
    refine hc.out.mono ?_
    rintro e w2 ⟨rfl, h2⟩
    replace h2 := hide h2
    go_wp2
    go_ret
    exact ⟨rfl, h2.out⟩
  · have hc := hide (wait_free h1 ht hu hne h0)
    rw [h0] at hs
    clear h h1 hok
    go_enter Tryz.func159, Tryz.ntmps159
    go_wp2_with fail
    refine hc.out.mono ?_
    rintro e w2 ⟨rfl, h2⟩
    replace h2 := hide h2
    go_wp2
    go_ret
    exact ⟨rfl, h2.out⟩

set_option maxHeartbeats 400000 in
theorem wait_ready (h : R l w) (ht : l[t]? = some (MemK m)) (hu : l[u]? = some (WaitK b s)) (hok : WaitOk m s) :
    Calls Tryz.prog 222 #[.pointer (some ⟨b, 0, none⟩), .pointer (some ⟨m.b, 0, none⟩)] w (Does l (.bool (waitReady m s))) := by
  have hs := h.wait hu
  obtain ⟨tv, wv, hm⟩ := h.memHdr ht
  rcases (by have := hok.at_; omega : s.at_ = 0 ∨ s.at_ = 2 ∨ (s.at_ = 1 ∨ s.at_ = 3)) with h0 | h0 | h0
  · have e : waitReady m s = decide (m.locks.getD 0 0 < 0) := by rw [waitReady, if_pos h0]
    rw [e]
    have hc := hide (memR_holder h ht 0 (by decide) (by decide))
    rw [show (0 : Int).toNat = 0 from rfl] at hc
    generalize m.locks.getD 0 0 = x at *
    rw [h0] at hs
    replace h := hide h
    clear hok e
    go_enter Tryz.func222, Tryz.ntmps222
    go_wp2_with fail
    refine hc.out.mono ?_
    rintro e w2 ⟨rfl, rfl⟩
    go_wp2
    go_ret
    exact ⟨rfl, h.out⟩
  · have e : waitReady m s = waitPassed m s := by rw [waitReady, if_neg (by omega), if_pos h0]
    rw [e]
    have hc := hide (wait_passed h ht hu hok (hok.next h0))
    rw [h0] at hs
    clear hok e h
    go_enter Tryz.func222, Tryz.ntmps222
    go_wp2_with fail
    refine hc.out.mono ?_
    rintro e w2 ⟨rfl, h2⟩
    replace h2 := hide h2
    go_wp2
    go_ret
    exact ⟨rfl, h2.out⟩
  · have e : waitReady m s = true := by rw [waitReady, if_neg (by omega), if_neg (by omega)]
    rw [e]
    replace h := hide h
    clear hok e hm
    rcases h0 with h0 | h0
    all_goals
      rw [h0] at hs
      go_enter Tryz.func222, Tryz.ntmps222
      go_wp2
      go_ret
      exact ⟨rfl, h.out⟩

set_option maxHeartbeats 400000 in
theorem qsbr_sync (h : R l w) (k : Nat) : Calls Tryz.prog 74 #[.int .i64 k] w fun e w' => ∃ b, e = .returned (.pointer (some ⟨b, 0, none⟩)) ∧ R (l ++ [WaitK b ⟨k, 0, 0, 0⟩]) w' := by
  have hn := hide (h.new #[.int .i64 k, .int .i64 0, .int .u64 0, .int .i64 0] 173)
  clear h
  go_enter Tryz.func74, Tryz.ntmps74
  go_wp2
  go_ret
  exact ⟨_, rfl, hn.out⟩

/-- A worker that comes in. -/
structure ComeS where
  worker : Nat
  loaded : Bool
  period : Int
def ComeK (b : Nat) (s : ComeS) : KObj := StK b #[.int .i64 s.worker, .bool s.loaded, .int .u64 s.period] 161
/-- A worker that goes out. -/
def GoneK (b k : Nat) : KObj := StK b #[.int .i64 k] 190
set_option maxHeartbeats 400000 in
theorem qsbr_enter (h : R l w) (k : Nat) : Calls Tryz.prog 54 #[.int .i64 k] w fun e w' => ∃ b, e = .returned (.pointer (some ⟨b, 0, none⟩)) ∧ R (l ++ [ComeK b ⟨k, false, 0⟩]) w' := by
  have hn := hide (h.new #[.int .i64 k, .bool false, .int .u64 0] 161)
  clear h
  go_enter Tryz.func54, Tryz.ntmps54
  go_wp2
  go_ret
  exact ⟨_, rfl, hn.out⟩
set_option maxHeartbeats 400000 in
theorem qsbr_leave (h : R l w) (k : Nat) : Calls Tryz.prog 100 #[.int .i64 k] w fun e w' => ∃ b, e = .returned (.pointer (some ⟨b, 0, none⟩)) ∧ R (l ++ [GoneK b k]) w' := by
  have hn := hide (h.new #[.int .i64 k] 190)
  clear h
  go_enter Tryz.func100, Tryz.ntmps100
  go_wp2
  go_ret
  exact ⟨_, rfl, hn.out⟩

set_option maxHeartbeats 400000 in
theorem qsbr_in (h : R l w) (ht : l[t]? = some (MemK m)) (k : Nat) (hk : k < m.workers) :
    Calls Tryz.prog 101 #[.pointer (some ⟨m.b, 0, none⟩), .int .i64 k] w (Does l (.bool (decide (inCell m k ≠ 0)))) := by
  obtain ⟨tv, wv, hm⟩ := h.memHdr ht
  have hmo := h.memOk ht
  have hld := hide fun j => memR_load (h.drewN j) ht (2 + (k : Int)) (by omega) (by have := hmo.cells3; omega)
  rw [show (2 + (k : Int)).toNat = 2 + k by omega] at hld
  have hcnt := hide fun j => mem_counter k (by omega) (by have := hmo.work; omega) (w.drewN j)
  have hr := hide fun j => h.drewN j
  unfold inCell
  generalize m.cells.getD (2 + k) 0 = v at *
  clear hmo h
  go_enter Tryz.func101, Tryz.ntmps101
  go_wp2_with fail
  go_quiet (first | exact quiet_left (hcnt.out _) | exact quiet_left (hld.out _))
  go_wp2
  go_ret
  refine ⟨?_, hr.out _⟩
  congr 2
  by_cases h0 : v = 0 <;> simp [h0]

def comeStep (m : MemS) (s : ComeS) : MemS × ComeS × Bool :=
  if s.loaded then ({ m with cells := m.cells.set (2 + s.worker) s.period }, s, true) else (m, { s with loaded := true, period := m.cells.getD 0 0 }, false)
set_option maxRecDepth 100000 in
set_option maxHeartbeats 800000 in
theorem come_step {s : ComeS} (h : R l w) (ht : l[t]? = some (MemK m)) (hu : l[u]? = some (ComeK b s)) (hne : t ≠ u) (hk : s.worker < m.workers) (hp : U64 s.period) :
    Calls Tryz.prog 86 #[.pointer (some ⟨b, 0, none⟩), .pointer (some ⟨m.b, 0, none⟩)] w (Does ((l.set t (MemK (comeStep m s).1)).set u (ComeK b (comeStep m s).2.1)) (.bool (comeStep m s).2.2)) := by
  obtain ⟨k, ld, p⟩ := s
  have hs := h.st hu
  dsimp only at hs hk hp
  obtain ⟨tv, wv, hm⟩ := h.memHdr ht
  have hmo := h.memOk ht
  cases ld
  · have e : comeStep m ⟨k, false, p⟩ = (m, ⟨k, true, m.cells.getD 0 0⟩, false) := rfl
    rw [e]
    dsimp only
    rw [set_same ht]
    have hld := hide (memR_load h ht 0 (by decide) (by have := hmo.cells3; omega))
    rw [show (0 : Int).toNat = 0 from rfl] at hld
    generalize m.cells.getD 0 0 = v at *
    have hp2 := hide ((h.put hu 2 (.int .u64 v)).put (set_get hu) 1 (.bool true))
    clear hmo h e
    go_enter Tryz.func86, Tryz.ntmps86
    go_wp2_with fail
    refine hld.out.mono ?_
    rintro e w2 ⟨rfl, rfl⟩
    go_wp2
    go_ret
    have := hp2.out
    rw [List.set_set] at this
    exact ⟨rfl, this⟩
  · have e : comeStep m ⟨k, true, p⟩ = ({ m with cells := m.cells.set (2 + k) p }, ⟨k, true, p⟩, true) := rfl
    rw [e]
    dsimp only
    have hst := hide fun j => memR_store (h.drewN j) ht (2 + (k : Int)) p (by omega) (by have := hmo.cells3; omega) hp
    rw [show (2 + (k : Int)).toNat = 2 + k by omega] at hst
    have hcnt := hide fun j => mem_counter k (by omega) (by have := hmo.work; omega) (w.drewN j)
    have hu2 := set_other (q := MemK { m with cells := m.cells.set (2 + k) p }) hu hne
    rw [set_same hu2]
    clear hmo h e hu2
    go_enter Tryz.func86, Tryz.ntmps86
    go_wp2_with fail
    go_still_tail 13, (by kernel_rfl)
    still_call ((hcnt.out 1).mono fun _ _ h => ⟨h.1, h.2.symm⟩)
    repeat still_step
    refine wpStill_nil ?_
    go_wp2_with fail
    refine (hst.out 1).mono ?_
    rintro e w2 ⟨rfl, h2⟩
    replace h2 := hide h2
    go_wp2
    go_ret
    exact ⟨rfl, h2.out⟩
def goneStep (m : MemS) (k : Nat) : MemS := { m with cells := m.cells.set (2 + k) 0 }
set_option maxRecDepth 100000 in
set_option maxHeartbeats 800000 in
theorem gone_step {k : Nat} (h : R l w) (ht : l[t]? = some (MemK m)) (hu : l[u]? = some (GoneK b k)) (hk : k < m.workers) :
    Calls Tryz.prog 141 #[.pointer (some ⟨b, 0, none⟩), .pointer (some ⟨m.b, 0, none⟩)] w (Does (l.set t (MemK (goneStep m k))) (.bool true)) := by
  have hs := h.st hu
  obtain ⟨tv, wv, hm⟩ := h.memHdr ht
  have hmo := h.memOk ht
  have hst := hide fun j => memR_store (h.drewN j) ht (2 + (k : Int)) 0 (by omega) (by have := hmo.cells3; omega) ⟨by decide, by decide⟩
  rw [show (2 + (k : Int)).toNat = 2 + k by omega] at hst
  have hcnt := hide fun j => mem_counter k (by omega) (by have := hmo.work; omega) (w.drewN j)
  clear hmo h
  go_enter Tryz.func141, Tryz.ntmps141
  go_wp2_with fail
  go_still_tail 9, (by kernel_rfl)
  still_call ((hcnt.out 1).mono fun _ _ h => ⟨h.1, h.2.symm⟩)
  repeat still_step
  refine wpStill_nil ?_
  go_wp2_with fail
  refine (hst.out 1).mono ?_
  rintro e w2 ⟨rfl, h2⟩
  replace h2 := hide h2
  go_wp2
  go_ret
  exact ⟨rfl, h2.out⟩
theorem come_ready (a p : Value) (w : World) : Calls Tryz.prog 216 #[a, p] w fun e w' => e = .returned (.bool true) ∧ w = w' := by
  go_enter Tryz.func216, Tryz.ntmps216
  go_wp2
  go_ret
  exact ⟨rfl, rfl⟩
theorem gone_ready (a p : Value) (w : World) : Calls Tryz.prog 223 #[a, p] w fun e w' => e = .returned (.bool true) ∧ w = w' := by
  go_enter Tryz.func223, Tryz.ntmps223
  go_wp2
  go_ret
  exact ⟨rfl, rfl⟩
theorem wait_frame (b : Nat) : FrameAt 141 222 159 b := ⟨fun n w => by kernel_rfl, fun n w => by kernel_rfl, fun n w => by kernel_rfl, fun a w => by kernel_rfl, fun a w => by kernel_rfl, fun n w => by kernel_rfl⟩
theorem come_frame (b : Nat) : FrameAt 117 216 86 b := ⟨fun n w => by kernel_rfl, fun n w => by kernel_rfl, fun n w => by kernel_rfl, fun a w => by kernel_rfl, fun a w => by kernel_rfl, fun n w => by kernel_rfl⟩
theorem gone_frame (b : Nat) : FrameAt 167 223 141 b := ⟨fun n w => by kernel_rfl, fun n w => by kernel_rfl, fun n w => by kernel_rfl, fun a w => by kernel_rfl, fun a w => by kernel_rfl, fun n w => by kernel_rfl⟩
end
end Go.Proofs.YtcgfknpobifecaaGreat

namespace Go.Proofs.YtcgfknpobifecaaGreat
open Go.RowKit

theorem sum_a : sumOf ⟨#[97]⟩ = 3826002220 := by decide +kernel
theorem pow_8 : powB 8 = true := by decide +kernel
theorem pow_0 : powB 0 = false := by decide +kernel

set_option maxHeartbeats 400000 in
theorem law01_awake (w : World) : Calls Tryz.prog 93 #[] w fun e w' => e = .returned (.bool true) ∧ w = w' := by
  have h1 := fnv_sum ⟨#[97]⟩ (by decide) w
  have h2 := fnv_power 8 w
  have h3 := fnv_power 0 w
  rw [sum_a] at h1
  rw [pow_8] at h2
  rw [pow_0] at h3
  replace h1 := hide h1
  replace h2 := hide h2
  replace h3 := hide h3
  go_enter Tryz.func93, Tryz.ntmps93
  go_wp2_with fail
  refine h1.out.mono ?_
  rintro e w' ⟨rfl, rfl⟩
  go_wp2_with fail
  refine h2.out.mono ?_
  rintro e w' ⟨rfl, rfl⟩
  go_wp2_with fail
  refine h3.out.mono ?_
  rintro e w' ⟨rfl, rfl⟩
  go_wp2
  go_ret
  exact ⟨rfl, rfl⟩

theorem bucket_splits (sum : Int) (k : Nat) (hk : k ≤ 15) :
    let n : Int := ((2 ^ k : Nat) : Int)
    0 ≤ bucketOf sum n ∧ bucketOf sum n < n ∧ (bucketOf sum (2 * n) = bucketOf sum n ∨ bucketOf sum (2 * n) = bucketOf sum n + n) := by
  have hp : ∀ j, j ≤ 16 → powB ((2 ^ j : Nat) : Int) = true := fun j hj => List.any_eq_true.2 ⟨j, List.mem_range.2 (by omega), decide_eq_true rfl⟩
  have h1 := hp k (by omega)
  have h2 := hp (k + 1) (by omega)
  have e : ((2 ^ (k + 1) : Nat) : Int) = 2 * ((2 ^ k : Nat) : Int) := by rw [Nat.pow_succ]; omega
  rw [e] at h2
  have hpos : 0 < 2 ^ k := Nat.two_pow_pos k
  simp only [bucketOf, if_pos h1, if_pos h2]
  generalize hn : ((2 ^ k : Nat) : Int) = n at *
  have hn0 : 0 < n := by omega
  have a1 := Int.emod_nonneg sum (show n ≠ 0 by omega)
  have a2 := Int.emod_lt_of_pos sum hn0
  have b1 := Int.emod_nonneg sum (show 2 * n ≠ 0 by omega)
  have b2 := Int.emod_lt_of_pos sum (show 0 < 2 * n by omega)
  have c : sum % n = sum % (2 * n) % n := by rw [Int.emod_emod_of_dvd _ (Int.dvd_mul_left 2 n)]
  refine ⟨a1, a2, ?_⟩
  rw [c]
  generalize sum % (2 * n) = y at *
  by_cases hy : y < n
  · rw [Int.emod_eq_of_lt b1 hy]; exact .inl rfl
  · right
    have : y % n = y - n := by
      have := Int.emod_eq_of_lt (a := y - n) (b := n) (by omega) (by omega)
      rwa [Int.sub_emod_right] at this
    omega

end Go.Proofs.YtcgfknpobifecaaGreat
