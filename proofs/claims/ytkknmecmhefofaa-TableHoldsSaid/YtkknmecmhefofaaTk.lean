/- Package table: a hold as one object; what its calls come to. Condition: the memory and the hold are there. -/
import Derived.Test.YtkknmecmhefofaaQu
import Derived.Laws.EntriesVeiled
import Derived.StillTailTactics
import Derived.Deep.RegionHeld3
namespace Go.Proofs.Ytkknmecmhefofaa
open Go.RowKit

structure HoldS where
  worker : Nat
  sum : Int
  phase : Nat
  number : Int
  desc : Int × Int
  lock : Int
  taken : Bool
  done : Bool
def holdF (k : Nat) : FuncId := if k = 0 then 108 else if k = 1 then 124 else if k = 2 then 130 else 132
def holdC (b : Nat) (s : HoldS) : Array Value := #[.int .i64 s.worker, .int .u32 s.sum, .func (.func (holdF s.phase)) #[.pointer (some ⟨b, 0, none⟩)] #[], .int .u64 s.number, .int .i64 s.desc.1, .int .i64 s.desc.2, .int .i64 s.lock, .bool s.taken, .bool s.done]
def HoldK (b : Nat) (s : HoldS) : KObj := StK b (holdC b s) 169
def hold0 (worker : Nat) (sum : Int) : HoldS := ⟨worker, sum, 0, 0, (0, 0), 0, false, false⟩
def unlockM (m : MemS) (i u : Int) : MemS := if m.locks.getD i.toNat 0 = u then { m with locks := m.locks.set i.toNat (-1) } else m
def holdReady (m : MemS) (s : HoldS) : Bool := if 0 < s.lock ∧ s.taken = false then decide (m.locks.getD s.lock.toNat 0 < 0) else true
def holdStep (m : MemS) (s : HoldS) : MemS × HoldS × Bool :=
  if s.phase = 0 then
    let v := m.cells.getD 1 0
    let d := descOf m (wrap64 v)
    (m, { s with number := v, desc := d, lock := lockOf s.sum d.1, phase := 1 }, false)
  else if s.phase = 1 then
    if m.locks.getD s.lock.toNat 0 = -1 then ({ m with locks := m.locks.set s.lock.toNat s.worker }, { s with taken := true, phase := 2 }, false) else (m, s, false)
  else if s.phase = 2 then
    if m.cells.getD 1 0 = s.number then (m, { s with done := true }, true) else (m, { s with phase := 3 }, false)
  else (unlockM m s.lock s.worker, { s with lock := 0, taken := false, phase := 0 }, false)
structure HoldOk (s : HoldS) : Prop where
  phase : s.phase ≤ 3
  sum : 0 ≤ s.sum ∧ s.sum ≤ 4294967295
  lock : 0 ≤ s.lock ∧ s.lock ≤ 4
  lock1 : 1 ≤ s.phase → 1 ≤ s.lock
  worker : s.worker ≤ 1000
  number : U64 s.number

section
variable {l : List KObj} {w : World} {t u b : Nat} {m : MemS} {s : HoldS}
theorem memR_unlockM (h : R l w) (ht : l[t]? = some (MemK m)) (i : Int) (k : Nat) (h0 : 0 ≤ i) (h1 : i < 6) :
    Calls Try.prog 66 #[.pointer (some ⟨m.lb, 0, none⟩), .int .i64 i, .int .i64 k] w (Does (l.set t (MemK (unlockM m i k))) (.int .i64 (if m.locks.getD i.toNat 0 = k then 0 else 7))) := by
  unfold unlockM
  by_cases hx : m.locks.getD i.toNat 0 = k
  · rw [if_pos hx, if_pos hx]
    exact memR_unlock h ht i k h0 h1 (by omega) hx
  · rw [if_neg hx, if_neg hx, set_same ht]
    refine (memR_unlock_other h ht i k h0 h1 (by omega) hx).mono ?_
    rintro e w' ⟨rfl, rfl⟩
    exact ⟨rfl, h⟩

set_option maxHeartbeats 400000 in
theorem hold_new (h : R l w) (worker : Nat) (sum : Int) : Calls Try.prog 62 #[.int .i64 worker, .int .u32 sum] w fun e w' => ∃ b, e = .returned (.pointer (some ⟨b, 0, none⟩)) ∧ R (l ++ [HoldK b (hold0 worker sum)]) w' := by
  have hn := hide (h.new (holdC w.heap.size (hold0 worker sum)) 169)
  clear h
  go_enter Try.func62, Try.ntmps62
  go_wp2
  go_ret
  exact ⟨_, rfl, hn.out⟩

set_option maxRecDepth 100000 in
set_option maxHeartbeats 800000 in
theorem hold_load (h : R l w) (ht : l[t]? = some (MemK m)) (hu : l[u]? = some (HoldK b s)) (hne : t ≠ u) (hok : HoldOk s) (hk : s.phase = 0) :
    Calls Try.prog 108 #[.pointer (some ⟨b, 0, none⟩), .pointer (some ⟨m.b, 0, none⟩)] w (Does ((l.set t (MemK (holdStep m s).1)).set u (HoldK b (holdStep m s).2.1)) (.bool (holdStep m s).2.2)) := by
  have hmo := h.memOk ht
  obtain ⟨tv, wv, hm⟩ := h.memHdr ht
  have e : holdStep m s = (m, { s with number := m.cells.getD 1 0, desc := descOf m (wrap64 (m.cells.getD 1 0)), lock := lockOf s.sum (descOf m (wrap64 (m.cells.getD 1 0))).1, phase := 1 }, false) := by rw [holdStep, if_pos hk]
  rw [e]
  dsimp only
  rw [set_same ht]
  have hs := h.st hu
  dsimp only [holdC] at hs
  have hld := memR_load h ht 1 (by decide) (by have := hmo.cells3; omega)
  rw [show (1 : Int).toNat = 1 from rfl] at hld
  generalize m.cells.getD 1 0 = v at *
  have hp1 := h.put hu 3 (.int .u64 v)
  have hds := hide (mem_desc hp1 (set_other ht hne.symm) (wrap64 v))
  generalize descOf m (wrap64 v) = d at *
  obtain ⟨dn, db⟩ := d
  dsimp only [descV] at hds ⊢
  have hwl := hide fun k w => mem_writerLock s.sum dn hok.sum.1 hok.sum.2 (World.drewN w k)
  generalize lockOf s.sum dn = lk at *
  replace hld := hide hld
  clear h e hmo hp1
  go_enter Try.func108, Try.ntmps108
  go_wp2_with fail
  refine hld.out.mono ?_
  rintro e w2 ⟨rfl, rfl⟩
  go_wp2_with fail
  refine hds.out.mono ?_
  rintro e w3 ⟨rfl, h3⟩
  have hs3 := h3.st (set_get hu)
  simp only [holdC, List.setIfInBounds_toArray, List.set_cons_succ, List.set_cons_zero] at hs3
  have h4 := (h3.put (set_get hu) 4 (.int .i64 dn)).put (set_get (set_get hu)) 5 (.int .i64 db)
  clear hds hld hs hm
  go_upto_region 3 with fail
  have hs4 := h4.st (set_get (set_get (set_get hu)))
  simp only [holdC, List.setIfInBounds_toArray, List.set_cons_succ, List.set_cons_zero] at hs4
  generalize ((w3.setCell ⟨b, 4, none⟩ (.int .i64 dn)).setCell ⟨b, 5, none⟩ (.int .i64 db)) = w4 at *
  have h5 := hide (((h4.drewN 1).put (set_get (set_get (set_get hu))) 6 (.int .i64 lk)).put (set_get (set_get (set_get (set_get hu)))) 2 (.func (.func 124) #[.pointer (some ⟨b, 0, none⟩)] #[]))
  clear h3 h4 hs3
  go_wp2_with fail
  go_still_tail 13, (by kernel_rfl)
  still_call ((hwl.out 1 _).mono fun _ _ h => ⟨h.1, h.2.symm⟩)
  repeat still_step
  refine wpStill_nil ?_
  go_wp2
  go_ret
  have := h5.out
  simp only [List.set_set] at this
  exact ⟨rfl, this⟩

set_option maxHeartbeats 800000 in
theorem hold_take (h : R l w) (ht : l[t]? = some (MemK m)) (hu : l[u]? = some (HoldK b s)) (hne : t ≠ u) (hok : HoldOk s) (hk : s.phase = 1) :
    Calls Try.prog 124 #[.pointer (some ⟨b, 0, none⟩), .pointer (some ⟨m.b, 0, none⟩)] w (Does ((l.set t (MemK (holdStep m s).1)).set u (HoldK b (holdStep m s).2.1)) (.bool (holdStep m s).2.2)) := by
  obtain ⟨tv, wv, hm⟩ := h.memHdr ht
  have hs := h.st hu
  have hl1 := hok.lock1 (by omega)
  have hl4 := hok.lock
  have hwk := hok.worker
  by_cases hf : m.locks.getD s.lock.toNat 0 = -1
  · have e : holdStep m s = ({ m with locks := m.locks.set s.lock.toNat s.worker }, { s with taken := true, phase := 2 }, false) := by rw [holdStep, if_neg (by omega), if_pos hk, if_pos hf]
    rw [e]
    have htry := hide (memR_try h.drew ht s.lock s.worker (by omega) (by omega) (by omega) (by omega) hf)
    have hu2 := set_other (q := MemK { m with locks := m.locks.set s.lock.toNat s.worker }) hu hne
    dsimp only [holdC] at hs
    have hmd : blk w.drew m.b = _ := hm
    have hsd : blk w.drew b = _ := hs
    clear hok e hf h
    go_enter Try.func124, Try.ntmps124
    go_wp2_with fail
    go_region_with (go_at_call 65; refine htry.out.mono ?_; rintro e w2 ⟨rfl, h2⟩)
    trace "AFTER"
    all_goals
      have hs2 := h2.st hu2
      have hp := hide ((h2.put hu2 7 (.bool true)).put (set_get hu2) 2 (.func (.func 130) #[.pointer (some ⟨b, 0, none⟩)] #[]))
      dsimp only [holdC] at hs2
      clear h2 hs hm htry
      go_wp2
      go_ret
      have := hp.out
      rw [List.set_set] at this
      exact ⟨rfl, this⟩
  · have e : holdStep m s = (m, s, false) := by rw [holdStep, if_neg (by omega), if_pos hk, if_neg hf]
    rw [e]
    have htry := hide (memR_try_held h.drew ht s.lock s.worker (by omega) (by omega) (by omega) hf)
    have hr := hide h.drew
    have es : (l.set t (MemK m)).set u (HoldK b s) = l := by rw [set_same ht, set_same hu]
    rw [es]
    dsimp only [holdC] at hs
    clear hok e hf h es
    go_enter Try.func124, Try.ntmps124
    go_wp2_with fail
    go_region_with (go_at_call 65; refine htry.out.mono ?_; rintro e w2 ⟨rfl, rfl⟩)
    all_goals
      go_wp2
      go_ret
      exact ⟨rfl, hr.out⟩
end
end Go.Proofs.Ytkknmecmhefofaa
