/- Package table: again, free, Drop, Step, Ready, Desc, Lock over a hold; a hold as a kind of frame. Condition: the memory and the hold are there. -/
import Derived.Test.YtkknmecmhefofaaTk
namespace Go.Proofs.Ytkknmecmhefofaa
open Go.RowKit

section
variable {l : List KObj} {w : World} {t u b : Nat} {m : MemS} {s : HoldS}
set_option maxHeartbeats 400000 in
theorem hold_again (h : R l w) (ht : l[t]? = some (MemK m)) (hu : l[u]? = some (HoldK b s)) (hok : HoldOk s) (hk : s.phase = 2) :
    Calls Try.prog 130 #[.pointer (some ⟨b, 0, none⟩), .pointer (some ⟨m.b, 0, none⟩)] w (Does ((l.set t (MemK (holdStep m s).1)).set u (HoldK b (holdStep m s).2.1)) (.bool (holdStep m s).2.2)) := by
  have hmo := h.memOk ht
  obtain ⟨tv, wv, hm⟩ := h.memHdr ht
  have hs := h.st hu
  dsimp only [holdC] at hs
  have hld := memR_load h ht 1 (by decide) (by have := hmo.cells3; omega)
  rw [show (1 : Int).toNat = 1 from rfl] at hld
  have e : holdStep m s = if m.cells.getD 1 0 = s.number then (m, { s with done := true }, true) else (m, { s with phase := 3 }, false) := by rw [holdStep, if_neg (by omega), if_neg (by omega), if_pos hk]
  rw [e]
  have hcl := hmo.cell 1
  have hnm := hok.number
  generalize m.cells.getD 1 0 = v at *
  obtain ⟨hc0, hc1⟩ := hcl
  obtain ⟨hn0, hn1⟩ := hnm
  replace hld := hide hld
  by_cases hv : v = s.number
  · rw [if_pos hv]
    dsimp only
    rw [set_same ht]
    have hp := hide (h.put hu 8 (.bool true))
    have hvv : (v == s.number) = true := by simp [hv]
    clear h e hmo hok
    go_enter Try.func130, Try.ntmps130
    go_wp2_with fail
    refine hld.out.mono ?_
    rintro e w2 ⟨rfl, rfl⟩
    go_wp2
    go_ret
    exact ⟨rfl, hp.out⟩
  · rw [if_neg hv]
    dsimp only
    rw [set_same ht]
    have hp := hide (h.put hu 2 (.func (.func 132) #[.pointer (some ⟨b, 0, none⟩)] #[]))
    have hvv : (v == s.number) = false := by simp [hv]
    clear h e hmo hok
    go_enter Try.func130, Try.ntmps130
    go_wp2_with fail
    refine hld.out.mono ?_
    rintro e w2 ⟨rfl, rfl⟩
    go_wp2
    go_ret
    exact ⟨rfl, hp.out⟩

set_option maxRecDepth 100000 in
set_option maxHeartbeats 800000 in
theorem hold_free (h : R l w) (ht : l[t]? = some (MemK m)) (hu : l[u]? = some (HoldK b s)) (hne : t ≠ u) (hok : HoldOk s) (hk : s.phase = 3) :
    Calls Try.prog 132 #[.pointer (some ⟨b, 0, none⟩), .pointer (some ⟨m.b, 0, none⟩)] w (Does ((l.set t (MemK (holdStep m s).1)).set u (HoldK b (holdStep m s).2.1)) (.bool (holdStep m s).2.2)) := by
  obtain ⟨tv, wv, hm⟩ := h.memHdr ht
  have hs := h.st hu
  dsimp only [holdC] at hs
  have hl1 := hok.lock1 (by omega)
  have hl4 := hok.lock
  have e : holdStep m s = (unlockM m s.lock s.worker, { s with lock := 0, taken := false, phase := 0 }, false) := by rw [holdStep, if_neg (by omega), if_neg (by omega), if_neg (by omega)]
  rw [e]
  have hfr := memR_unlockM h.drew ht s.lock s.worker (by omega) (by omega)
  generalize (if m.locks.getD s.lock.toNat 0 = (s.worker : Int) then (0 : Int) else 7) = cd at hfr
  replace hfr := hide hfr
  have hu2 := set_other (q := MemK (unlockM m s.lock s.worker)) hu hne
  clear e h hok
  go_enter Try.func132, Try.ntmps132
  go_wp2_with fail
  go_still_tail 12, (by kernel_rfl)
  go_wp2_with fail
  refine hfr.out.mono ?_
  rintro e w2 ⟨rfl, h2⟩
  have hs2 := h2.st hu2
  have hp := hide (((h2.put hu2 6 (.int .i64 0)).put (set_get hu2) 7 (.bool false)).put (set_get (set_get hu2)) 2 (.func (.func 108) #[.pointer (some ⟨b, 0, none⟩)] #[]))
  dsimp only [holdC] at hs2
  clear h2 hs hm hfr
  go_wp2
  go_ret
  have := hp.out
  rw [List.set_set, List.set_set] at this
  exact ⟨rfl, this⟩

set_option maxRecDepth 100000 in
set_option maxHeartbeats 800000 in
theorem hold_drop (h : R l w) (ht : l[t]? = some (MemK m)) (hu : l[u]? = some (HoldK b s)) (hne : t ≠ u) (hok : HoldOk s) (hk : s.done = true) :
    Calls Try.prog 74 #[.pointer (some ⟨b, 0, none⟩), .pointer (some ⟨m.b, 0, none⟩)] w (Does ((l.set t (MemK (unlockM m s.lock s.worker))).set u (HoldK b { s with done := false })) (.bool true)) := by
  obtain ⟨tv, wv, hm⟩ := h.memHdr ht
  have hs := h.st hu
  dsimp only [holdC] at hs
  have hl4 := hok.lock
  have hfr := memR_unlockM h.drew ht s.lock s.worker (by omega) (by omega)
  generalize (if m.locks.getD s.lock.toNat 0 = (s.worker : Int) then (0 : Int) else 7) = cd at hfr
  replace hfr := hide hfr
  have hu2 := set_other (q := MemK (unlockM m s.lock s.worker)) hu hne
  rw [hk] at hs
  clear h hok
  replace hk := hide hk
  go_enter Try.func74, Try.ntmps74
  go_wp2_with fail
  go_still_tail 12, (by kernel_rfl)
  go_wp2_with fail
  refine hfr.out.mono ?_
  rintro e w2 ⟨rfl, h2⟩
  have hs2 := h2.st hu2
  have hp := hide (h2.put hu2 8 (.bool false))
  dsimp only [holdC] at hs2
  clear h2 hs hm hfr
  go_wp2
  go_ret
  exact ⟨rfl, hp.out⟩
set_option maxHeartbeats 400000 in
theorem hold_drop_no (h : R l w) (hu : l[u]? = some (HoldK b s)) (hk : s.done = false) (p : Value) :
    Calls Try.prog 74 #[.pointer (some ⟨b, 0, none⟩), p] w fun e w' => e = .returned (.bool false) ∧ w = w' := by
  have hs := h.st hu
  dsimp only [holdC] at hs
  rw [hk] at hs
  go_enter Try.func74, Try.ntmps74
  go_wp2
  go_ret
  exact ⟨rfl, rfl⟩
def holdDesc (s : HoldS) : Int × Int := if s.done then s.desc else (0, 0)
def holdLock (s : HoldS) : Int := if s.done then s.lock else -1
set_option maxHeartbeats 400000 in
theorem hold_lock (h : R l w) (hu : l[u]? = some (HoldK b s)) : Calls Try.prog 72 #[.pointer (some ⟨b, 0, none⟩)] w fun e w' => e = .returned (.int .i64 (holdLock s)) ∧ w = w' := by
  have hs := h.st hu
  dsimp only [holdC] at hs
  unfold holdLock
  cases hk : s.done
  all_goals
    rw [hk] at hs
    clear hk
    go_enter Try.func72, Try.ntmps72
    go_wp2
    go_ret
    exact ⟨rfl, rfl⟩
set_option maxHeartbeats 400000 in
theorem hold_desc (h : R l w) (hu : l[u]? = some (HoldK b s)) : Calls Try.prog 73 #[.pointer (some ⟨b, 0, none⟩)] w (Does l (descV (holdDesc s))) := by
  have hs := h.st hu
  have hlt := lt_of_blk hs
  dsimp only [holdC] at hs
  unfold holdDesc descV
  have hR := hide fun x => h.alloc x
  clear h
  cases hk : s.done
  all_goals
    rw [hk] at hs
    clear hk
    go_enter Try.func73, Try.ntmps73
    go_wp2
    refine bodyPost_ret (by simp [results, Try.results73, go_sem]; rfl) rfl ?_
    exact ⟨by simp, hR.out _⟩
set_option maxHeartbeats 400000 in
theorem hold_asks (h : R l w) (hu : l[u]? = some (HoldK b s)) : Calls Try.prog 111 #[.pointer (some ⟨b, 0, none⟩)] w fun e w' => e = .returned (.bool (decide (0 < s.lock ∧ s.taken = false))) ∧ w = w' := by
  have hs := h.st hu
  dsimp only [holdC] at hs
  by_cases h0 : 0 < s.lock
  · cases hk : s.taken
    all_goals
      rw [hk] at hs
      clear hk
      go_enter Try.func111, Try.ntmps111
      go_wp2
      go_ret
      exact ⟨by simp [h0], rfl⟩
  · go_enter Try.func111, Try.ntmps111
    go_wp2
    go_ret
    exact ⟨by simp; intro hx; omega, rfl⟩

set_option maxHeartbeats 400000 in
theorem hold_step (h : R l w) (ht : l[t]? = some (MemK m)) (hu : l[u]? = some (HoldK b s)) (hne : t ≠ u) (hok : HoldOk s) :
    Calls Try.prog 69 #[.pointer (some ⟨b, 0, none⟩), .pointer (some ⟨m.b, 0, none⟩)] w (Does ((l.set t (MemK (holdStep m s).1)).set u (HoldK b (holdStep m s).2.1)) (.bool (holdStep m s).2.2)) := by
  have hs := h.st hu
  dsimp only [holdC] at hs
  rcases (by have := hok.phase; omega : s.phase = 0 ∨ s.phase = 1 ∨ s.phase = 2 ∨ s.phase = 3) with h0 | h0 | h0 | h0
  · have hc := hide (hold_load h ht hu hne hok h0)
    rw [h0] at hs
    simp only [holdF] at hs
    replace h0 := hide h0
    clear h hok
    go_enter Try.func69, Try.ntmps69
    go_wp2_with fail
    refine hc.out.mono ?_
    rintro e w2 ⟨rfl, h2⟩
    replace h2 := hide h2
    go_wp2
    go_ret
    exact ⟨rfl, h2.out⟩
  · have hc := hide (hold_take h ht hu hne hok h0)
    rw [h0] at hs
    simp only [holdF] at hs
    replace h0 := hide h0
    clear h hok
    go_enter Try.func69, Try.ntmps69
    go_wp2_with fail
    refine hc.out.mono ?_
    rintro e w2 ⟨rfl, h2⟩
    replace h2 := hide h2
    go_wp2
    go_ret
    exact ⟨rfl, h2.out⟩
  · have hc := hide (hold_again h ht hu hok h0)
    rw [h0] at hs
    simp only [holdF] at hs
    replace h0 := hide h0
    clear h hok
    go_enter Try.func69, Try.ntmps69
    go_wp2_with fail
    refine hc.out.mono ?_
    rintro e w2 ⟨rfl, h2⟩
    replace h2 := hide h2
    go_wp2
    go_ret
    exact ⟨rfl, h2.out⟩
  · have hc := hide (hold_free h ht hu hne hok h0)
    rw [h0] at hs
    simp only [holdF] at hs
    replace h0 := hide h0
    clear h hok
    go_enter Try.func69, Try.ntmps69
    go_wp2_with fail
    refine hc.out.mono ?_
    rintro e w2 ⟨rfl, h2⟩
    replace h2 := hide h2
    go_wp2
    go_ret
    exact ⟨rfl, h2.out⟩
set_option maxHeartbeats 400000 in
theorem hold_readyN (h : R l w) (ht : l[t]? = some (MemK m)) (hu : l[u]? = some (HoldK b s)) (hok : HoldOk s) :
    Calls Try.prog 68 #[.pointer (some ⟨b, 0, none⟩), .pointer (some ⟨m.b, 0, none⟩)] w fun e w' => e = .returned (.bool (holdReady m s)) ∧ ∃ n, w' = w.drewN n := by
  obtain ⟨tv, wv, hm⟩ := h.memHdr ht
  have hs := h.st hu
  dsimp only [holdC] at hs
  have ha := hide fun k => hold_asks (h.drewN k) hu
  have hl4 := hok.lock
  unfold holdReady
  by_cases hk : 0 < s.lock ∧ s.taken = false
  · have hh := hide fun k => memR_holder (h.drewN k) ht s.lock (by omega) (by omega)
    rw [if_pos hk]
    rw [show decide (0 < s.lock ∧ s.taken = false) = true by simpa using hk] at ha
    generalize m.locks.getD s.lock.toNat 0 = x at *
    clear hok h
    replace hk := hide hk
    go_enter Try.func68, Try.ntmps68
    go_wp2_with fail
    go_quiet (first | exact quiet_left (ha.out _) | exact quiet_left (hh.out _))
    go_wp2
    go_ret
    exact ⟨rfl, _, rfl⟩
  · rw [if_neg hk]
    rw [show decide (0 < s.lock ∧ s.taken = false) = false by simpa using hk] at ha
    clear hok h
    replace hk := hide hk
    go_enter Try.func68, Try.ntmps68
    go_wp2_with fail
    go_quiet (first | exact quiet_left (ha.out _))
    go_wp2
    go_ret
    exact ⟨rfl, _, rfl⟩
theorem hold_ready (h : R l w) (ht : l[t]? = some (MemK m)) (hu : l[u]? = some (HoldK b s)) (hok : HoldOk s) :
    Calls Try.prog 68 #[.pointer (some ⟨b, 0, none⟩), .pointer (some ⟨m.b, 0, none⟩)] w (Does l (.bool (holdReady m s))) := by
  refine (hold_readyN h ht hu hok).mono ?_
  rintro e w' ⟨rfl, n, rfl⟩
  exact ⟨rfl, h.drewN n⟩
end
theorem hold_frame (b : Nat) : FrameAt 111 68 69 b := ⟨fun n w => by kernel_rfl, fun n w => by kernel_rfl, fun n w => by kernel_rfl, fun a w => by kernel_rfl, fun a w => by kernel_rfl, fun n w => by kernel_rfl⟩
theorem HoldOk.start (k : Nat) (x : Int) (hk : k ≤ 1000) (h0 : 0 ≤ x) (h1 : x ≤ 4294967295) : HoldOk (hold0 k x) :=
  ⟨by show (0 : Nat) ≤ 3; decide, ⟨h0, h1⟩, by show (0 : Int) ≤ 0 ∧ (0 : Int) ≤ 4; decide, fun h => by simp [hold0] at h, hk, by show (0 : Int) ≤ 0; decide, by show (0 : Int) ≤ 18446744073709551615; decide⟩
theorem hold_inv {m : MemS} {s : HoldS} (hm : MemOk m) (hi : HoldOk s) : HoldOk (holdStep m s).2.1 := by
  unfold holdStep
  split
  · have := lockOf_is s.sum (descOf m (wrap64 (m.cells.getD 1 0))).1 hi.sum.1
    exact ⟨by show (1 : Nat) ≤ 3; decide, hi.sum, by dsimp only; omega, fun _ => by dsimp only; omega, hi.worker, hm.cell 1⟩
  · split
    · split
      · exact ⟨by show (2 : Nat) ≤ 3; decide, hi.sum, hi.lock, fun _ => hi.lock1 (by omega), hi.worker, hi.number⟩
      · exact hi
    · split
      · split
        · exact ⟨hi.phase, hi.sum, hi.lock, hi.lock1, hi.worker, hi.number⟩
        · exact ⟨by show (3 : Nat) ≤ 3; decide, hi.sum, hi.lock, fun _ => hi.lock1 (by omega), hi.worker, hi.number⟩
      · exact ⟨by show (0 : Nat) ≤ 3; decide, hi.sum, by show (0 : Int) ≤ 0 ∧ (0 : Int) ≤ 4; decide, fun h => by simp at h, hi.worker, hi.number⟩
theorem holdK : FrameK 111 68 69 HoldK (fun _ s => HoldOk s) holdReady holdStep where
  at_ := hold_frame
  ready_ h ht hu _ hi := hold_ready h ht hu hi
  step_ h ht hu hne hi _ := hold_step h ht hu hne hi
  inv hm hi _ := hold_inv hm hi
  blk m s := by
    unfold holdStep
    split
    · rfl
    · split
      · split <;> rfl
      · split
        · split <;> rfl
        · unfold unlockM; split <;> rfl
end Go.Proofs.Ytkknmecmhefofaa
