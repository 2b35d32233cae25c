/- Package table: a hold as one object; what its calls come to. Condition: the memory and the hold are there. Package table: again, free, Drop, Step, Ready, Desc, Lock over a hold; a hold as a kind of frame. Condition: the memory and the hold are there. -/
import Derived.Test.YtcgfknpobifecaaGreatLa02m
import Derived.Laws.EntriesVeiled
import Derived.StillTailTactics
import Derived.Deep.RegionHeld3
namespace Go.Proofs.YtcgfknpobifecaaGreat
open Go.RowKit

structure HoldS where
  worker : Nat
  sum : Int
  phase : Nat
  number : Int
  desc : Int × Int
  lock : Int
  taken : Bool
  done : Bool
def holdF (k : Nat) : FuncId := if k = 0 then 75 else if k = 1 then 108 else if k = 2 then 127 else 139
def holdC (b : Nat) (s : HoldS) : Array Value := #[.int .i64 s.worker, .int .u32 s.sum, .func (.func (holdF s.phase)) #[.pointer (some ⟨b, 0, none⟩)] #[], .int .u64 s.number, .int .i64 s.desc.1, .int .i64 s.desc.2, .int .i64 s.lock, .bool s.taken, .bool s.done]
def HoldK (b : Nat) (s : HoldS) : KObj := StK b (holdC b s) 147
def hold0 (worker : Nat) (sum : Int) : HoldS := ⟨worker, sum, 0, 0, (0, 0), 0, false, false⟩
def unlockM (m : MemS) (i u : Int) : MemS := if m.locks.getD i.toNat 0 = u then { m with locks := m.locks.set i.toNat (-1) } else m
def holdReady (m : MemS) (s : HoldS) : Bool := if 0 < s.lock ∧ s.taken = false then decide (m.locks.getD s.lock.toNat 0 < 0) else true
def holdStep (m : MemS) (s : HoldS) : MemS × HoldS × Bool :=
  if s.phase = 0 then
    let v := m.cells.getD 1 0
    let d := descOf m (wrap64 v)
    (m, { s with number := v, desc := d, lock := lockOf s.sum d.1, phase := 1 }, false)
  else if s.phase = 1 then
    if m.locks.getD s.lock.toNat 0 = -1 then ({ m with locks := m.locks.set s.lock.toNat s.worker }, { s with taken := true, phase := 2 }, false) else (m, s, false)
  else if s.phase = 2 then
    if m.cells.getD 1 0 = s.number then (m, { s with done := true }, true) else (m, { s with phase := 3 }, false)
  else (unlockM m s.lock s.worker, { s with lock := 0, taken := false, phase := 0 }, false)
structure HoldOk (s : HoldS) : Prop where
  phase : s.phase ≤ 3
  sum : 0 ≤ s.sum ∧ s.sum ≤ 4294967295
  lock : 0 ≤ s.lock ∧ s.lock ≤ 4
  lock1 : 1 ≤ s.phase → 1 ≤ s.lock
  worker : s.worker ≤ 1000
  number : U64 s.number

section
variable {l : List KObj} {w : World} {t u b : Nat} {m : MemS} {s : HoldS}
theorem memR_unlockM (h : R l w) (ht : l[t]? = some (MemK m)) (i : Int) (k : Nat) (h0 : 0 ≤ i) (h1 : i < 6) :
    Calls Tryz.prog 99 #[.pointer (some ⟨m.lb, 0, none⟩), .int .i64 i, .int .i64 k] w (Does (l.set t (MemK (unlockM m i k))) (.int .i64 (if m.locks.getD i.toNat 0 = k then 0 else 7))) := by
  unfold unlockM
  by_cases hx : m.locks.getD i.toNat 0 = k
  · rw [if_pos hx, if_pos hx]
    exact memR_unlock h ht i k h0 h1 (by omega) hx
  · rw [if_neg hx, if_neg hx, set_same ht]
    refine (memR_unlock_other h ht i k h0 h1 (by omega) hx).mono ?_
    rintro e w' ⟨rfl, rfl⟩
    exact ⟨rfl, h⟩

set_option maxHeartbeats 400000 in
theorem hold_new (h : R l w) (worker : Nat) (sum : Int) : Calls Tryz.prog 44 #[.int .i64 worker, .int .u32 sum] w fun e w' => ∃ b, e = .returned (.pointer (some ⟨b, 0, none⟩)) ∧ R (l ++ [HoldK b (hold0 worker sum)]) w' := by
  have hn := hide (h.new (holdC w.heap.size (hold0 worker sum)) 147)
  clear h
  go_enter Tryz.func44, Tryz.ntmps44
  go_wp2
  go_ret
  exact ⟨_, rfl, hn.out⟩

set_option maxRecDepth 100000 in
set_option maxHeartbeats 800000 in
theorem hold_load (h : R l w) (ht : l[t]? = some (MemK m)) (hu : l[u]? = some (HoldK b s)) (hne : t ≠ u) (hok : HoldOk s) (hk : s.phase = 0) :
    Calls Tryz.prog 75 #[.pointer (some ⟨b, 0, none⟩), .pointer (some ⟨m.b, 0, none⟩)] w (Does ((l.set t (MemK (holdStep m s).1)).set u (HoldK b (holdStep m s).2.1)) (.bool (holdStep m s).2.2)) := by
  have hmo := h.memOk ht
  obtain ⟨tv, wv, hm⟩ := h.memHdr ht
  have e : holdStep m s = (m, { s with number := m.cells.getD 1 0, desc := descOf m (wrap64 (m.cells.getD 1 0)), lock := lockOf s.sum (descOf m (wrap64 (m.cells.getD 1 0))).1, phase := 1 }, false) := by rw [holdStep, if_pos hk]
  rw [e]
  dsimp only
  rw [set_same ht]
  have hs := h.st hu
  dsimp only [holdC] at hs
  have hld := memR_load h ht 1 (by decide) (by have := hmo.cells3; omega)
  rw [show (1 : Int).toNat = 1 from rfl] at hld
  generalize m.cells.getD 1 0 = v at *
  have hp1 := h.put hu 3 (.int .u64 v)
  have hds := hide (mem_desc hp1 (set_other ht hne.symm) (wrap64 v))
  generalize descOf m (wrap64 v) = d at *
  obtain ⟨dn, db⟩ := d
  dsimp only [descV] at hds ⊢
  have hwl := hide fun k w => mem_writerLock s.sum dn hok.sum.1 hok.sum.2 (World.drewN w k)
  generalize lockOf s.sum dn = lk at *
  replace hld := hide hld
  clear h e hmo hp1
  go_enter Tryz.func75, Tryz.ntmps75
  go_wp2_with fail
  refine hld.out.mono ?_
  rintro e w2 ⟨rfl, rfl⟩
  go_wp2_with fail
  refine hds.out.mono ?_
  rintro e w3 ⟨rfl, h3⟩
  have hs3 := h3.st (set_get hu)
  simp only [holdC, List.setIfInBounds_toArray, List.set_cons_succ, List.set_cons_zero] at hs3
  have h4 := (h3.put (set_get hu) 4 (.int .i64 dn)).put (set_get (set_get hu)) 5 (.int .i64 db)
  clear hds hld hs hm
  go_upto_region 3 with fail
  have hs4 := h4.st (set_get (set_get (set_get hu)))
  simp only [holdC, List.setIfInBounds_toArray, List.set_cons_succ, List.set_cons_zero] at hs4
  generalize ((w3.setCell ⟨b, 4, none⟩ (.int .i64 dn)).setCell ⟨b, 5, none⟩ (.int .i64 db)) = w4 at *
  have h5 := hide (((h4.drewN 1).put (set_get (set_get (set_get hu))) 6 (.int .i64 lk)).put (set_get (set_get (set_get (set_get hu)))) 2 (.func (.func 108) #[.pointer (some ⟨b, 0, none⟩)] #[]))
  clear h3 h4 hs3
  go_wp2_with fail
  go_still_tail 13, (by kernel_rfl)
  still_call ((hwl.out 1 _).mono fun _ _ h => ⟨h.1, h.2.symm⟩)
  repeat still_step
  refine wpStill_nil ?_
  go_wp2
  go_ret
  have := h5.out
  simp only [List.set_set] at this
  exact ⟨rfl, this⟩

set_option maxHeartbeats 800000 in
theorem hold_take (h : R l w) (ht : l[t]? = some (MemK m)) (hu : l[u]? = some (HoldK b s)) (hne : t ≠ u) (hok : HoldOk s) (hk : s.phase = 1) :
    Calls Tryz.prog 108 #[.pointer (some ⟨b, 0, none⟩), .pointer (some ⟨m.b, 0, none⟩)] w (Does ((l.set t (MemK (holdStep m s).1)).set u (HoldK b (holdStep m s).2.1)) (.bool (holdStep m s).2.2)) := by
  obtain ⟨tv, wv, hm⟩ := h.memHdr ht
  have hs := h.st hu
  have hl1 := hok.lock1 (by omega)
  have hl4 := hok.lock
  have hwk := hok.worker
  by_cases hf : m.locks.getD s.lock.toNat 0 = -1
  · have e : holdStep m s = ({ m with locks := m.locks.set s.lock.toNat s.worker }, { s with taken := true, phase := 2 }, false) := by rw [holdStep, if_neg (by omega), if_pos hk, if_pos hf]
    rw [e]
    have htry := hide (memR_try h.drew ht s.lock s.worker (by omega) (by omega) (by omega) (by omega) hf)
    have hu2 := set_other (q := MemK { m with locks := m.locks.set s.lock.toNat s.worker }) hu hne
    dsimp only [holdC] at hs
    have hmd : blk w.drew m.b = _ := hm
    have hsd : blk w.drew b = _ := hs
    clear hok e hf h
    go_enter Tryz.func108, Tryz.ntmps108
    go_wp2_with fail
    go_region_with (go_at_call 120; refine htry.out.mono ?_; rintro e w2 ⟨rfl, h2⟩)
    trace "AFTER"
    all_goals
      have hs2 := h2.st hu2
      have hp := hide ((h2.put hu2 7 (.bool true)).put (set_get hu2) 2 (.func (.func 127) #[.pointer (some ⟨b, 0, none⟩)] #[]))
      dsimp only [holdC] at hs2
      clear h2 hs hm htry
      go_wp2
      go_ret
      have := hp.out
      rw [List.set_set] at this
      exact ⟨rfl, this⟩
  · have e : holdStep m s = (m, s, false) := by rw [holdStep, if_neg (by omega), if_pos hk, if_neg hf]
    rw [e]
    have htry := hide (memR_try_held h.drew ht s.lock s.worker (by omega) (by omega) (by omega) hf)
    have hr := hide h.drew
    have es : (l.set t (MemK m)).set u (HoldK b s) = l := by rw [set_same ht, set_same hu]
    rw [es]
    dsimp only [holdC] at hs
    clear hok e hf h es
    go_enter Tryz.func108, Tryz.ntmps108
    go_wp2_with fail
    go_region_with (go_at_call 120; refine htry.out.mono ?_; rintro e w2 ⟨rfl, rfl⟩)
    all_goals
      go_wp2
      go_ret
      exact ⟨rfl, hr.out⟩
end
end Go.Proofs.YtcgfknpobifecaaGreat

namespace Go.Proofs.YtcgfknpobifecaaGreat
open Go.RowKit

section
variable {l : List KObj} {w : World} {t u b : Nat} {m : MemS} {s : HoldS}
set_option maxHeartbeats 400000 in
theorem hold_again (h : R l w) (ht : l[t]? = some (MemK m)) (hu : l[u]? = some (HoldK b s)) (hok : HoldOk s) (hk : s.phase = 2) :
    Calls Tryz.prog 127 #[.pointer (some ⟨b, 0, none⟩), .pointer (some ⟨m.b, 0, none⟩)] w (Does ((l.set t (MemK (holdStep m s).1)).set u (HoldK b (holdStep m s).2.1)) (.bool (holdStep m s).2.2)) := by
  have hmo := h.memOk ht
  obtain ⟨tv, wv, hm⟩ := h.memHdr ht
  have hs := h.st hu
  dsimp only [holdC] at hs
  have hld := memR_load h ht 1 (by decide) (by have := hmo.cells3; omega)
  rw [show (1 : Int).toNat = 1 from rfl] at hld
  have e : holdStep m s = if m.cells.getD 1 0 = s.number then (m, { s with done := true }, true) else (m, { s with phase := 3 }, false) := by rw [holdStep, if_neg (by omega), if_neg (by omega), if_pos hk]
  rw [e]
  have hcl := hmo.cell 1
  have hnm := hok.number
  generalize m.cells.getD 1 0 = v at *
  obtain ⟨hc0, hc1⟩ := hcl
  obtain ⟨hn0, hn1⟩ := hnm
  replace hld := hide hld
  by_cases hv : v = s.number
  · rw [if_pos hv]
    dsimp only
    rw [set_same ht]
    have hp := hide (h.put hu 8 (.bool true))
    have hvv : (v == s.number) = true := by simp [hv]
    clear h e hmo hok
    go_enter Tryz.func127, Tryz.ntmps127
    go_wp2_with fail
    refine hld.out.mono ?_
    rintro e w2 ⟨rfl, rfl⟩
    go_wp2
    go_ret
    exact ⟨rfl, hp.out⟩
  · rw [if_neg hv]
    dsimp only
    rw [set_same ht]
    have hp := hide (h.put hu 2 (.func (.func 139) #[.pointer (some ⟨b, 0, none⟩)] #[]))
    have hvv : (v == s.number) = false := by simp [hv]
    clear h e hmo hok
    go_enter Tryz.func127, Tryz.ntmps127
    go_wp2_with fail
    refine hld.out.mono ?_
    rintro e w2 ⟨rfl, rfl⟩
    go_wp2
    go_ret
    exact ⟨rfl, hp.out⟩

set_option maxRecDepth 100000 in
set_option maxHeartbeats 800000 in
theorem hold_free (h : R l w) (ht : l[t]? = some (MemK m)) (hu : l[u]? = some (HoldK b s)) (hne : t ≠ u) (hok : HoldOk s) (hk : s.phase = 3) :
    Calls Tryz.prog 139 #[.pointer (some ⟨b, 0, none⟩), .pointer (some ⟨m.b, 0, none⟩)] w (Does ((l.set t (MemK (holdStep m s).1)).set u (HoldK b (holdStep m s).2.1)) (.bool (holdStep m s).2.2)) := by
  obtain ⟨tv, wv, hm⟩ := h.memHdr ht
  have hs := h.st hu
  dsimp only [holdC] at hs
  have hl1 := hok.lock1 (by omega)
  have hl4 := hok.lock
  have e : holdStep m s = (unlockM m s.lock s.worker, { s with lock := 0, taken := false, phase := 0 }, false) := by rw [holdStep, if_neg (by omega), if_neg (by omega), if_neg (by omega)]
  rw [e]
  have hfr := memR_unlockM h.drew ht s.lock s.worker (by omega) (by omega)
  generalize (if m.locks.getD s.lock.toNat 0 = (s.worker : Int) then (0 : Int) else 7) = cd at hfr
  replace hfr := hide hfr
  have hu2 := set_other (q := MemK (unlockM m s.lock s.worker)) hu hne
  clear e h hok
  go_enter Tryz.func139, Tryz.ntmps139
  go_wp2_with fail
  go_still_tail 12, (by kernel_rfl)
  go_wp2_with fail
  refine hfr.out.mono ?_
  rintro e w2 ⟨rfl, h2⟩
  have hs2 := h2.st hu2
  have hp := hide (((h2.put hu2 6 (.int .i64 0)).put (set_get hu2) 7 (.bool false)).put (set_get (set_get hu2)) 2 (.func (.func 75) #[.pointer (some ⟨b, 0, none⟩)] #[]))
  dsimp only [holdC] at hs2
  clear h2 hs hm hfr
  go_wp2
  go_ret
  have := hp.out
  rw [List.set_set, List.set_set] at this
  exact ⟨rfl, this⟩

set_option maxRecDepth 100000 in
set_option maxHeartbeats 800000 in
theorem hold_drop (h : R l w) (ht : l[t]? = some (MemK m)) (hu : l[u]? = some (HoldK b s)) (hne : t ≠ u) (hok : HoldOk s) (hk : s.done = true) :
    Calls Tryz.prog 67 #[.pointer (some ⟨b, 0, none⟩), .pointer (some ⟨m.b, 0, none⟩)] w (Does ((l.set t (MemK (unlockM m s.lock s.worker))).set u (HoldK b { s with done := false })) (.bool true)) := by
  obtain ⟨tv, wv, hm⟩ := h.memHdr ht
  have hs := h.st hu
  dsimp only [holdC] at hs
  have hl4 := hok.lock
  have hfr := memR_unlockM h.drew ht s.lock s.worker (by omega) (by omega)
  generalize (if m.locks.getD s.lock.toNat 0 = (s.worker : Int) then (0 : Int) else 7) = cd at hfr
  replace hfr := hide hfr
  have hu2 := set_other (q := MemK (unlockM m s.lock s.worker)) hu hne
  rw [hk] at hs
  clear h hok
  replace hk := hide hk
  go_enter Tryz.func67, Tryz.ntmps67
  go_wp2_with fail
  go_still_tail 12, (by kernel_rfl)
  go_wp2_with fail
  refine hfr.out.mono ?_
  rintro e w2 ⟨rfl, h2⟩
  have hs2 := h2.st hu2
  have hp := hide (h2.put hu2 8 (.bool false))
  dsimp only [holdC] at hs2
  clear h2 hs hm hfr
  go_wp2
  go_ret
  exact ⟨rfl, hp.out⟩
set_option maxHeartbeats 400000 in
theorem hold_drop_no (h : R l w) (hu : l[u]? = some (HoldK b s)) (hk : s.done = false) (p : Value) :
    Calls Tryz.prog 67 #[.pointer (some ⟨b, 0, none⟩), p] w fun e w' => e = .returned (.bool false) ∧ w = w' := by
  have hs := h.st hu
  dsimp only [holdC] at hs
  rw [hk] at hs
  go_enter Tryz.func67, Tryz.ntmps67
  go_wp2
  go_ret
  exact ⟨rfl, rfl⟩
def holdDesc (s : HoldS) : Int × Int := if s.done then s.desc else (0, 0)
def holdLock (s : HoldS) : Int := if s.done then s.lock else -1
set_option maxHeartbeats 400000 in
theorem hold_lock (h : R l w) (hu : l[u]? = some (HoldK b s)) : Calls Tryz.prog 64 #[.pointer (some ⟨b, 0, none⟩)] w fun e w' => e = .returned (.int .i64 (holdLock s)) ∧ w = w' := by
  have hs := h.st hu
  dsimp only [holdC] at hs
  unfold holdLock
  cases hk : s.done
  all_goals
    rw [hk] at hs
    clear hk
    go_enter Tryz.func64, Tryz.ntmps64
    go_wp2
    go_ret
    exact ⟨rfl, rfl⟩
set_option maxHeartbeats 400000 in
theorem hold_desc (h : R l w) (hu : l[u]? = some (HoldK b s)) : Calls Tryz.prog 65 #[.pointer (some ⟨b, 0, none⟩)] w (Does l (descV (holdDesc s))) := by
  have hs := h.st hu
  have hlt := lt_of_blk hs
  dsimp only [holdC] at hs
  unfold holdDesc descV
  have hR := hide fun x => h.alloc x
  clear h
  cases hk : s.done
  all_goals
    rw [hk] at hs
    clear hk
    go_enter Tryz.func65, Tryz.ntmps65
    go_wp2
    refine bodyPost_ret (by simp [results, Tryz.results65, go_sem]; rfl) rfl ?_
    exact ⟨by simp, hR.out _⟩
set_option maxHeartbeats 400000 in
theorem hold_asks (h : R l w) (hu : l[u]? = some (HoldK b s)) : Calls Tryz.prog 195 #[.pointer (some ⟨b, 0, none⟩)] w fun e w' => e = .returned (.bool (decide (0 < s.lock ∧ s.taken = false))) ∧ w = w' := by
  have hs := h.st hu
  dsimp only [holdC] at hs
  by_cases h0 : 0 < s.lock
  · cases hk : s.taken
    all_goals
      rw [hk] at hs
      clear hk
      go_enter Tryz.func195, Tryz.ntmps195
      go_wp2
      go_ret
      exact ⟨by simp [h0], rfl⟩
  · go_enter Tryz.func195, Tryz.ntmps195
    go_wp2
    go_ret
    exact ⟨by simp; intro hx; omega, rfl⟩

set_option maxHeartbeats 400000 in
theorem hold_step (h : R l w) (ht : l[t]? = some (MemK m)) (hu : l[u]? = some (HoldK b s)) (hne : t ≠ u) (hok : HoldOk s) :
    Calls Tryz.prog 76 #[.pointer (some ⟨b, 0, none⟩), .pointer (some ⟨m.b, 0, none⟩)] w (Does ((l.set t (MemK (holdStep m s).1)).set u (HoldK b (holdStep m s).2.1)) (.bool (holdStep m s).2.2)) := by
  have hs := h.st hu
  dsimp only [holdC] at hs
  rcases (by have := hok.phase; omega : s.phase = 0 ∨ s.phase = 1 ∨ s.phase = 2 ∨ s.phase = 3) with h0 | h0 | h0 | h0
  · have hc := hide (hold_load h ht hu hne hok h0)
    rw [h0] at hs
    simp only [holdF] at hs
    replace h0 := hide h0
    clear h hok
    go_enter Tryz.func76, Tryz.ntmps76
    go_wp2_with fail
    refine hc.out.mono ?_
    rintro e w2 ⟨rfl, h2⟩
    replace h2 := hide h2
    go_wp2
    go_ret
    exact ⟨rfl, h2.out⟩
  · have hc := hide (hold_take h ht hu hne hok h0)
    rw [h0] at hs
    simp only [holdF] at hs
    replace h0 := hide h0
    clear h hok
    go_enter Tryz.func76, Tryz.ntmps76
    go_wp2_with fail
    refine hc.out.mono ?_
    rintro e w2 ⟨rfl, h2⟩
    replace h2 := hide h2
    go_wp2
    go_ret
    exact ⟨rfl, h2.out⟩
  · have hc := hide (hold_again h ht hu hok h0)
    rw [h0] at hs
    simp only [holdF] at hs
    replace h0 := hide h0
    clear h hok
    go_enter Tryz.func76, Tryz.ntmps76
    go_wp2_with fail
    refine hc.out.mono ?_
    rintro e w2 ⟨rfl, h2⟩
    replace h2 := hide h2
    go_wp2
    go_ret
    exact ⟨rfl, h2.out⟩
  · have hc := hide (hold_free h ht hu hne hok h0)
    rw [h0] at hs
    simp only [holdF] at hs
    replace h0 := hide h0
    clear h hok
    go_enter Tryz.func76, Tryz.ntmps76
    go_wp2_with fail
    refine hc.out.mono ?_
    rintro e w2 ⟨rfl, h2⟩
    replace h2 := hide h2
    go_wp2
    go_ret
    exact ⟨rfl, h2.out⟩
set_option maxHeartbeats 400000 in
theorem hold_readyN (h : R l w) (ht : l[t]? = some (MemK m)) (hu : l[u]? = some (HoldK b s)) (hok : HoldOk s) :
    Calls Tryz.prog 194 #[.pointer (some ⟨b, 0, none⟩), .pointer (some ⟨m.b, 0, none⟩)] w fun e w' => e = .returned (.bool (holdReady m s)) ∧ ∃ n, w' = w.drewN n := by
  obtain ⟨tv, wv, hm⟩ := h.memHdr ht
  have hs := h.st hu
  dsimp only [holdC] at hs
  have ha := hide fun k => hold_asks (h.drewN k) hu
  have hl4 := hok.lock
  unfold holdReady
  by_cases hk : 0 < s.lock ∧ s.taken = false
  · have hh := hide fun k => memR_holder (h.drewN k) ht s.lock (by omega) (by omega)
    rw [if_pos hk]
    rw [show decide (0 < s.lock ∧ s.taken = false) = true by simpa using hk] at ha
    generalize m.locks.getD s.lock.toNat 0 = x at *
    clear hok h
    replace hk := hide hk
    go_enter Tryz.func194, Tryz.ntmps194
    go_wp2_with fail
    go_quiet (first | exact quiet_left (ha.out _) | exact quiet_left (hh.out _))
    go_wp2
    go_ret
    exact ⟨rfl, _, rfl⟩
  · rw [if_neg hk]
    rw [show decide (0 < s.lock ∧ s.taken = false) = false by simpa using hk] at ha
    clear hok h
    replace hk := hide hk
    go_enter Tryz.func194, Tryz.ntmps194
    go_wp2_with fail
    go_quiet (first | exact quiet_left (ha.out _))
    go_wp2
    go_ret
    exact ⟨rfl, _, rfl⟩
theorem hold_ready (h : R l w) (ht : l[t]? = some (MemK m)) (hu : l[u]? = some (HoldK b s)) (hok : HoldOk s) :
    Calls Tryz.prog 194 #[.pointer (some ⟨b, 0, none⟩), .pointer (some ⟨m.b, 0, none⟩)] w (Does l (.bool (holdReady m s))) := by
  refine (hold_readyN h ht hu hok).mono ?_
  rintro e w' ⟨rfl, n, rfl⟩
  exact ⟨rfl, h.drewN n⟩
end
theorem hold_frame (b : Nat) : FrameAt 97 194 76 b := ⟨fun n w => by kernel_rfl, fun n w => by kernel_rfl, fun n w => by kernel_rfl, fun a w => by kernel_rfl, fun a w => by kernel_rfl, fun n w => by kernel_rfl⟩
theorem HoldOk.start (k : Nat) (x : Int) (hk : k ≤ 1000) (h0 : 0 ≤ x) (h1 : x ≤ 4294967295) : HoldOk (hold0 k x) :=
  ⟨by show (0 : Nat) ≤ 3; decide, ⟨h0, h1⟩, by show (0 : Int) ≤ 0 ∧ (0 : Int) ≤ 4; decide, fun h => by simp [hold0] at h, hk, by show (0 : Int) ≤ 0; decide, by show (0 : Int) ≤ 18446744073709551615; decide⟩
theorem hold_inv {m : MemS} {s : HoldS} (hm : MemOk m) (hi : HoldOk s) : HoldOk (holdStep m s).2.1 := by
  unfold holdStep
  split
  · have := lockOf_is s.sum (descOf m (wrap64 (m.cells.getD 1 0))).1 hi.sum.1
    exact ⟨by show (1 : Nat) ≤ 3; decide, hi.sum, by dsimp only; omega, fun _ => by dsimp only; omega, hi.worker, hm.cell 1⟩
  · split
    · split
      · exact ⟨by show (2 : Nat) ≤ 3; decide, hi.sum, hi.lock, fun _ => hi.lock1 (by omega), hi.worker, hi.number⟩
      · exact hi
    · split
      · split
        · exact ⟨hi.phase, hi.sum, hi.lock, hi.lock1, hi.worker, hi.number⟩
        · exact ⟨by show (3 : Nat) ≤ 3; decide, hi.sum, hi.lock, fun _ => hi.lock1 (by omega), hi.worker, hi.number⟩
      · exact ⟨by show (0 : Nat) ≤ 3; decide, hi.sum, by show (0 : Int) ≤ 0 ∧ (0 : Int) ≤ 4; decide, fun h => by simp at h, hi.worker, hi.number⟩
theorem holdK : FrameK 97 194 76 HoldK (fun _ s => HoldOk s) holdReady holdStep where
  at_ := hold_frame
  ready_ h ht hu _ hi := hold_ready h ht hu hi
  step_ h ht hu hne hi _ := hold_step h ht hu hne hi
  inv hm hi _ := hold_inv hm hi
  blk m s := by
    unfold holdStep
    split
    · rfl
    · split
      · split <;> rfl
      · split
        · split <;> rfl
        · unfold unlockM; split <;> rfl
end Go.Proofs.YtcgfknpobifecaaGreat
