/- Package mem: head, New. Condition: such an object is there. Package qsbr: what its frames' steps come to. Condition: the memory and the frame are there. -/
import Derived.Test.YtcgfknpobifecaaGreatMnm
import Derived.Deep.RegionWith
namespace Go.Proofs.YtcgfknpobifecaaGreat
open Go.RowKit

section
variable {l : List KObj} {w : World} {t : Nat} {m : MemS}
theorem nowOf_in (hn : nowOf m ≠ (0, 0)) : nowOf m ∈ m.tables := by
  unfold nowOf at *
  by_cases hi : (m.cells.getD 1 0).toNat < m.tables.length
  · rw [List.getD_eq_getElem?_getD, List.getElem?_eq_getElem hi]; exact List.getElem_mem hi
  · rw [List.getD_eq_getElem?_getD, List.getElem?_eq_none (Nat.le_of_not_lt hi)] at hn
    exact absurd rfl hn
theorem nowOf_ok (h : MemOk m) : 0 ≤ (nowOf m).1 ∧ (nowOf m).1 ≤ 65536 ∧ 0 ≤ (nowOf m).2 ∧ (nowOf m).2 + (nowOf m).1 ≤ m.cells.length := by
  by_cases hn : nowOf m = (0, 0)
  · rw [hn]; simp
  · have := h.tab _ (nowOf_in hn); omega
/-- The first handle of a bucket. -/
def headOf (m : MemS) (b : Int) : Int := if 0 ≤ b ∧ b < (nowOf m).1 then m.cells.getD ((nowOf m).2 + b).toNat 0 else 0
theorem headOf_u64 (h : MemOk m) (b : Int) : U64 (headOf m b) := by
  unfold headOf
  split
  · exact h.cell _
  · exact ⟨by decide, by decide⟩
set_option maxHeartbeats 400000 in
theorem mem_head (h : R l w) (ht : l[t]? = some (MemK m)) (b : Int) :
    Calls Tryz.prog 82 #[.pointer (some ⟨m.b, 0, none⟩), .int .i64 b] w (Does l (.int .u64 (headOf m b))) := by
  have hok := nowOf_ok (h.memOk ht)
  have hlen := (h.memOk ht).cellsLen
  have hnow := hide (mem_now h ht)
  unfold headOf
  generalize hd : nowOf m = d at *
  obtain ⟨n, base⟩ := d
  unfold descV at hnow
  dsimp only at *
  obtain ⟨hn0, hn1, hb0, hb1⟩ := hok
  by_cases hc : 0 ≤ b ∧ b < n
  · rw [if_pos hc]
    obtain ⟨hc0, hc1⟩ := hc
    have hld : Hid (∀ w', R l w' → _) := hide fun w' h => memR_load (w := w') h ht (base + b) (by omega) (by omega)
    have hgl : Hid (∀ w', R l w' → ∃ tv wv, _) := hide fun w' h => R.memHdr (w := w') h ht
    clear hd h
    generalize m.cells.getD (base + b).toNat 0 = v at *
    go_enter Tryz.func82, Tryz.ntmps82
    go_wp2_with fail
    refine hnow.out.mono ?_
    rintro e w1 ⟨rfl, h1⟩
    have h2 := h1.alloc (.cells #[.int .i64 n, .int .i64 base] 83)
    obtain ⟨tv, wv, hm⟩ := hgl.out _ h1
    have hlt := lt_of_blk hm
    have hl2 := hide fun k => hld.out _ (h2.drewN k)
    replace h2 := hide h2
    clear h1 hnow hld hgl
    go_wp2_with fail
    go_quiet (exact quiet_left (hl2.out _))
    go_wp2
    go_ret
    exact ⟨rfl, h2.out.drewN _⟩
  · rw [if_neg hc]
    clear hd h
    by_cases hc0 : 0 ≤ b
    · have hc1 : n ≤ b := by omega
      clear hc
      go_enter Tryz.func82, Tryz.ntmps82
      go_wp2_with fail
      refine hnow.out.mono ?_
      rintro e w1 ⟨rfl, h1⟩
      have h2 := hide (h1.alloc (.cells #[.int .i64 n, .int .i64 base] 83))
      go_wp2
      go_ret
      exact ⟨rfl, h2.out⟩
    · clear hc
      go_enter Tryz.func82, Tryz.ntmps82
      go_wp2_with fail
      refine hnow.out.mono ?_
      rintro e w1 ⟨rfl, h1⟩
      have h2 := hide (h1.alloc (.cells #[.int .i64 n, .int .i64 base] 83))
      go_wp2
      go_ret
      exact ⟨rfl, h2.out⟩

/-- A new memory. -/
def memNew (b cb lb ab room workers : Nat) : MemS where
  b := b
  cb := cb
  lb := lb
  ab := ab
  cells := [1] ++ List.replicate (workers + 2) 0
  locks := List.replicate 6 (-1)
  ss := List.replicate room slot0
  fault := false
  gen := 0
  workers := workers
  tables := [(1, (workers : Int) + 2)]
  waiting := []
theorem memNew_is (b cb lb ab room workers : Nat) : tableM { b := b, cb := cb, lb := lb, ab := ab, cells := (List.replicate (2 + (workers : Int)).toNat 0).set (0 : Int).toNat 1, locks := List.replicate (6 : Int).toNat (-1), ss := List.replicate room slot0, fault := false, gen := 0, workers := workers, tables := [], waiting := [] } 1 = memNew b cb lb ab room workers := by
  have h1 : (2 + (workers : Int)).toNat = workers + 1 + 1 := by omega
  have h2 : (List.replicate (workers + 1 + 1) (0 : Int)).set (0 : Int).toNat 1 = 1 :: List.replicate (workers + 1) 0 := rfl
  have h3 : List.replicate (workers + 1) (0 : Int) ++ [0] = List.replicate (workers + 2) 0 := by rw [List.replicate_succ' (n := workers + 1)]
  simp only [tableM, memNew, h1, h2]
  rw [show List.replicate (1 : Int).toNat (0 : Int) = [0] from rfl, List.cons_append, h3]
  simp
  omega
def MemMade (l : List KObj) (room workers : Nat) (e : Ending) (w' : World) : Prop :=
  ∃ b cb lb ab, e = .returned (.tuple #[.pointer (some ⟨b, 0, none⟩), .int .i64 0]) ∧ R (l ++ [MemK (memNew b cb lb ab room workers)]) w'
theorem pow_1 : powB 1 = true := by decide +kernel
set_option maxHeartbeats 800000 in
theorem mem_new (h : R l w) (room workers : Nat) (h0 : 1 ≤ room) (h1 : room ≤ 1024) (h2 : 1 ≤ workers) (h3 : workers ≤ 8) :
    Calls Tryz.prog 37 #[.int .i64 room, .int .i64 workers] w (MemMade l room workers) := by
  obtain ⟨o, hr⟩ := h
  have ha := hide (arena_make o (16 * l.length + 2) (16 * l.length + 3) room (by omega) h0 h1 w)
  go_enter Tryz.func37, Tryz.ntmps37
  go_wp2_with fail
  refine ha.out.mono ?_
  rintro e w1 ⟨o1, ab, rfl, A1, e1⟩
  have hc := hide (cells_new_ok o1 (16 * l.length) (2 + (workers : Int)) (by omega) (by omega) w1)
  clear ha
  go_wp2_with fail
  refine hc.out.mono ?_
  rintro e w2 ⟨o2, cb, rfl, C2, e2⟩
  have hl := hide (locks_new_ok o2 (16 * l.length + 1) 6 (by omega) (by omega) w2)
  clear hc
  go_wp2_with fail
  refine hl.out.mono ?_
  rintro e w3 ⟨o3, lb, rfl, L3, e3⟩
  have A3 := (A1.ext e2 id id).ext e3 (by omega) (by omega)
  have C3 := C2.ext e3 (by omega)
  have E3 := ((e1.mono (S2 := fun x => 16 * l.length ≤ x) (fun x hx => by omega)).trans e2.none).trans (e3.mono (fun x hx => by omega))
  have e4 : Ext o3 (upd o3 w3.heap.size (16 * l.length + 4)) w3 (w3.alloc (.cells #[.pointer (some ⟨cb, 0, none⟩), .pointer (some ⟨lb, 0, none⟩), .pointer (some ⟨ab, 0, none⟩), .int .i64 workers, .slice none 0 0, .slice none 0 0] 36)) (fun _ => False) := ((Ext.refl o3 w3 _).retag _).alloc _
  have hnew : R (l ++ [MemK { b := w3.heap.size, cb := cb, lb := lb, ab := ab, cells := List.replicate (2 + (workers : Int)).toNat 0, locks := List.replicate (6 : Int).toNat (-1), ss := List.replicate room slot0, fault := false, gen := 0, workers := workers, tables := [], waiting := [] }]) (w3.alloc (.cells #[.pointer (some ⟨cb, 0, none⟩), .pointer (some ⟨lb, 0, none⟩), .pointer (some ⟨ab, 0, none⟩), .int .i64 workers, .slice none 0 0, .slice none 0 0] 36)) := by
    refine hr.add (E3.trans e4.none) (fun x hx => hx) ⟨?_, C3.ext e4 id, L3.ext e4 id, A3.ext e4 id id, _, _, ⟨blk_new _ _, upd_new (Nat.le_refl _)⟩, SlAt.nil _ _ _ _ _, SlAt.nil _ _ _ _ _⟩
    refine ⟨fun x hx => ?_, ?_, ?_, rfl, fun x hx => ?_, ⟨h2, h3⟩, fun x hx => absurd hx List.not_mem_nil, ?_, fun x hx => absurd hx List.not_mem_nil, fun s hs => ?_⟩
    · rw [List.eq_of_mem_replicate hx]; exact ⟨by decide, by decide⟩
    · simp; omega
    · simp; omega
    · rw [List.eq_of_mem_replicate hx]; exact ⟨by decide, by decide⟩
    · simp; omega
    · rw [List.eq_of_mem_replicate hs]; exact nd0_ok
  have hst := hide (memR_store hnew app_last 0 1 (by decide) (by simp; omega) ⟨by decide, by decide⟩)
  clear hl hnew e1 e2 e3 e4 E3 A1 A3 C2 C3 L3 hr
  go_wp2_with fail
  refine hst.out.mono ?_
  rintro e w5 ⟨rfl, R5⟩
  simp only [List.set_append_right _ _ (Nat.le_refl _), Nat.sub_self, List.set_cons_zero] at R5
  have htb := hide (mem_table R5 app_last 1 pow_1 (by simp; omega))
  clear hst R5
  dsimp only at htb
  go_wp2_with fail
  refine htb.out.mono ?_
  rintro e w6 ⟨rfl, R6⟩
  simp only [List.set_append_right _ _ (Nat.le_refl _), Nat.sub_self, List.set_cons_zero] at R6
  replace R6 := hide R6
  go_wp2
  go_ret2
  refine ⟨_, cb, lb, ab, rfl, ?_⟩
  have := R6.out
  rw [memNew_is] at this
  exact this
end
end Go.Proofs.YtcgfknpobifecaaGreat

namespace Go.Proofs.YtcgfknpobifecaaGreat
open Go.RowKit

/-- A worker that waits. -/
structure WaitS where
  worker : Nat
  at_ : Nat
  period : Int
  next : Nat
def WaitK (b : Nat) (s : WaitS) : KObj := StK b #[.int .i64 s.worker, .int .i64 s.at_, .int .u64 s.period, .int .i64 s.next] 173
def inCell (m : MemS) (k : Nat) : Int := m.cells.getD (2 + k) 0
def waitPassed (m : MemS) (s : WaitS) : Bool := decide (inCell m s.next = 0) || decide (s.period ≤ inCell m s.next)
def waitReady (m : MemS) (s : WaitS) : Bool := if s.at_ = 0 then decide (m.locks.getD 0 0 < 0) else if s.at_ = 2 then waitPassed m s else true
structure WaitOk (m : MemS) (s : WaitS) : Prop where
  at_ : s.at_ ≤ 3
  next : s.at_ = 2 → s.next < m.workers
  early : s.at_ ≤ 1 → s.next = 0
  small : s.next ≤ 8 ∧ s.worker ≤ 1000
  period : U64 s.period
def waitStep (m : MemS) (s : WaitS) : MemS × WaitS × Bool :=
  if s.at_ = 0 then (if m.locks.getD 0 0 = -1 then ({ m with locks := m.locks.set 0 s.worker }, { s with at_ := 1 }, false) else (m, s, false))
  else if s.at_ = 1 then ({ m with cells := m.cells.set 0 (IntKind.u64.wrap (m.cells.getD 0 0 + 1)) }, { s with at_ := 2, period := IntKind.u64.wrap (m.cells.getD 0 0 + 1) }, false)
  else if s.at_ = 2 then
    let n := if waitPassed m s then s.next + 1 else s.next
    (m, { s with next := n, at_ := if m.workers ≤ n then 3 else 2 }, false)
  else (if m.locks.getD 0 0 = s.worker then { m with locks := m.locks.set 0 (-1) } else m, s, true)

section
variable {l : List KObj} {w : World} {t u b : Nat} {m : MemS} {s : WaitS}
theorem R.wait (h : R l w) (hu : l[u]? = some (WaitK b s)) : blk w b = some (.cells #[.int .i64 s.worker, .int .i64 s.at_, .int .u64 s.period, .int .i64 s.next] 173 (0, 0)) := h.st hu

set_option maxHeartbeats 400000 in
theorem wait_take (h : R l w) (ht : l[t]? = some (MemK m)) (hu : l[u]? = some (WaitK b s)) (hne : t ≠ u) (hok : WaitOk m s) (h0 : s.at_ = 0) :
    Calls Tryz.prog 162 #[.pointer (some ⟨b, 0, none⟩), .pointer (some ⟨m.b, 0, none⟩)] w (Does ((l.set t (MemK (waitStep m s).1)).set u (WaitK b (waitStep m s).2.1)) (.bool (waitStep m s).2.2)) := by
  obtain ⟨tv, wv, hm⟩ := h.memHdr ht
  have hs := h.wait hu
  rw [h0] at hs
  by_cases hf : m.locks.getD 0 0 = -1
  · have e : waitStep m s = ({ m with locks := m.locks.set 0 s.worker }, { s with at_ := 1 }, false) := by rw [waitStep, if_pos h0, if_pos hf]
    rw [e]
    have htry := hide (memR_try (h.drewN 1) ht 0 s.worker (by decide) (by decide) (by omega) (by have := hok.small; omega) hf)
    have hu2 := set_other (q := MemK { m with locks := m.locks.set (0 : Int).toNat s.worker }) hu hne
    clear hok e hf h
    go_enter Tryz.func162, Tryz.ntmps162
    go_wp2_with fail
    go_region_with (go_at_call 120; refine htry.out.mono ?_; rintro e w2 ⟨rfl, h2⟩)
    all_goals
      have hs2 := h2.wait hu2
      rw [h0] at hs2
      have hp := hide (h2.put hu2 1 (.int .i64 1))
      clear h2 hs hm htry
      go_wp2
      go_ret
      exact ⟨rfl, hp.out⟩
  · have e : waitStep m s = (m, s, false) := by rw [waitStep, if_pos h0, if_neg hf]
    rw [e]
    have htry := hide (memR_try_held (h.drewN 1) ht 0 s.worker (by decide) (by decide) (by omega) hf)
    have hr := hide (h.drewN 1)
    have es : (l.set t (MemK m)).set u (WaitK b s) = l := by rw [set_same ht, set_same hu]
    rw [es]
    clear hok e hf h es
    go_enter Tryz.func162, Tryz.ntmps162
    go_wp2_with fail
    go_region_with (go_at_call 120; refine htry.out.mono ?_; rintro e w2 ⟨rfl, rfl⟩)
    all_goals
      go_wp2
      go_ret
      exact ⟨rfl, hr.out⟩

set_option maxHeartbeats 400000 in
theorem wait_add (h : R l w) (ht : l[t]? = some (MemK m)) (hu : l[u]? = some (WaitK b s)) (hne : t ≠ u) (h0 : s.at_ = 1) :
    Calls Tryz.prog 163 #[.pointer (some ⟨b, 0, none⟩), .pointer (some ⟨m.b, 0, none⟩)] w (Does ((l.set t (MemK (waitStep m s).1)).set u (WaitK b (waitStep m s).2.1)) (.bool (waitStep m s).2.2)) := by
  obtain ⟨tv, wv, hm⟩ := h.memHdr ht
  have hok := h.memOk ht
  have e : waitStep m s = ({ m with cells := m.cells.set 0 (IntKind.u64.wrap (m.cells.getD 0 0 + 1)) }, { s with at_ := 2, period := IntKind.u64.wrap (m.cells.getD 0 0 + 1) }, false) := by rw [waitStep, if_neg (by omega), if_pos h0]
  rw [e]
  have hadd := hide (memR_add h ht 0 1 (by decide) (by have := hok.cells3; omega))
  rw [show (0 : Int).toNat = 0 from rfl] at hadd
  generalize IntKind.u64.wrap (m.cells.getD 0 0 + 1) = v at *
  have hu2 := set_other (q := MemK { m with cells := m.cells.set 0 v }) hu hne
  clear hok e h
  go_enter Tryz.func163, Tryz.ntmps163
  go_wp2_with fail
  refine hadd.out.mono ?_
  rintro e w2 ⟨rfl, h2⟩
  have hs2 := h2.wait hu2
  rw [h0] at hs2
  have hp := hide ((h2.put hu2 2 (.int .u64 v)).put (set_get hu2) 1 (.int .i64 2))
  clear h2 hm hadd
  go_wp2
  go_ret
  have := hp.out
  rw [List.set_set, h0] at this
  exact ⟨rfl, this⟩

set_option maxHeartbeats 400000 in
theorem wait_passed (h : R l w) (ht : l[t]? = some (MemK m)) (hu : l[u]? = some (WaitK b s)) (hok : WaitOk m s) (hn : s.next < m.workers) :
    Calls Tryz.prog 167 #[.pointer (some ⟨b, 0, none⟩), .pointer (some ⟨m.b, 0, none⟩)] w (Does l (.bool (waitPassed m s))) := by
  obtain ⟨tv, wv, hm⟩ := h.memHdr ht
  have hs := h.wait hu
  have hmo := h.memOk ht
  have hld := hide fun k => memR_load (h.drewN k) ht (2 + (s.next : Int)) (by omega) (by have := hmo.cells3; omega)
  rw [show (2 + (s.next : Int)).toNat = 2 + s.next by omega] at hld
  have hv := hmo.cell (2 + s.next)
  have hper := hok.period
  have hsm := hok.small.1
  unfold waitPassed inCell
  generalize m.cells.getD (2 + s.next) 0 = v at *
  obtain ⟨hv0, hv1⟩ := hv
  obtain ⟨hp0, hp1⟩ := hper
  have hcnt := hide fun k => mem_counter s.next (by omega) (by omega) (w.drewN k)
  have hr := hide fun k => h.drewN k
  clear hok hmo h
  by_cases h0 : v = 0
  · subst h0
    go_enter Tryz.func167, Tryz.ntmps167
    go_wp2_with fail
    go_quiet (first | exact quiet_left (hcnt.out _) | exact quiet_left (hld.out _))
    go_wp2
    go_ret
    exact ⟨rfl, hr.out _⟩
  · have hv2 : (v == 0) = false := by simp [h0]
    by_cases h1 : s.period ≤ v
    · go_enter Tryz.func167, Tryz.ntmps167
      go_wp2_with fail
      go_quiet (first | exact quiet_left (hcnt.out _) | exact quiet_left (hld.out _))
      go_wp2
      go_ret
      exact ⟨by simp [h1], hr.out _⟩
    · go_enter Tryz.func167, Tryz.ntmps167
      go_wp2_with fail
      go_quiet (first | exact quiet_left (hcnt.out _) | exact quiet_left (hld.out _))
      go_wp2
      go_ret
      exact ⟨by simp [h0], hr.out _⟩

set_option maxHeartbeats 800000 in
theorem wait_look (h : R l w) (ht : l[t]? = some (MemK m)) (hu : l[u]? = some (WaitK b s)) (hne : t ≠ u) (hok : WaitOk m s) (h0 : s.at_ = 2) :
    Calls Tryz.prog 164 #[.pointer (some ⟨b, 0, none⟩), .pointer (some ⟨m.b, 0, none⟩)] w (Does ((l.set t (MemK (waitStep m s).1)).set u (WaitK b (waitStep m s).2.1)) (.bool (waitStep m s).2.2)) := by
  have hn := hok.next h0
  have hpass := hide (wait_passed h ht hu hok hn)
  have hsm := hok.small
  have hwk := (h.memOk ht).work
  have e : waitStep m s = (m, { s with next := if waitPassed m s then s.next + 1 else s.next, at_ := if m.workers ≤ (if waitPassed m s then s.next + 1 else s.next) then 3 else 2 }, false) := by rw [waitStep, if_neg (by omega), if_neg (by omega), if_pos h0]
  rw [e]
  dsimp only
  rw [set_same ht]
  have hs := h.wait hu
  rw [h0] at hs
  clear e
  cases hp : waitPassed m s
  · rw [hp] at hpass
    simp only [Bool.false_eq_true, if_false]
    rw [if_neg (by omega)]
    have he : ({ s with next := s.next, at_ := 2 } : WaitS) = s := by cases s; simp at h0; simp [h0]
    rw [he, set_same hu]
    clear h hok he hp
    go_enter Tryz.func164, Tryz.ntmps164
    go_wp2_with fail
    refine hpass.out.mono ?_
    rintro e w2 ⟨rfl, h2⟩
    have hs2 := h2.wait hu
    rw [h0] at hs2
    have hwk2 := hide fun k => mem_workers (h2.drewN k) ht
    replace h2 := hide h2
    have hlt : ¬ ((m.workers : Int) ≤ s.next) := by omega
    clear hs hpass
    go_wp2_with fail
    go_quiet (first | exact quiet_left (hwk2.out _))
    go_wp2
    go_ret
    exact ⟨rfl, h2.out.drewN _⟩
  · rw [hp] at hpass
    rw [if_pos rfl]
    by_cases hlast : m.workers ≤ s.next + 1
    · rw [if_pos hlast]
      clear h hok hp
      go_enter Tryz.func164, Tryz.ntmps164
      go_wp2_with fail
      refine hpass.out.mono ?_
      rintro e w2 ⟨rfl, h2⟩
      have hs2 := h2.wait hu
      rw [h0] at hs2
      have hp1 := h2.put hu 3 (.int .i64 (s.next + 1))
      have hst := hp1.st (set_get hu)
      rw [h0] at hst
      have hwk2 := hide fun k => mem_workers (hp1.drewN k) (set_other ht (by omega))
      have hp2 := hide fun k => (hp1.put (set_get hu) 1 (.int .i64 3)).drewN k
      have hp3 := hide fun k => (hp1.drewN k).put (set_get hu) 1 (.int .i64 3)
      have hlt : (m.workers : Int) ≤ s.next + 1 := by omega
      clear hs hpass h2 hp1
      go_wp2_with fail
      go_quiet (first | exact quiet_left (hwk2.out _))
      go_wp2
      go_ret
      have := hp3.out nq
      rw [List.set_set] at this
      exact ⟨rfl, this⟩
    · rw [if_neg hlast]
      clear h hok hp
      go_enter Tryz.func164, Tryz.ntmps164
      go_wp2_with fail
      refine hpass.out.mono ?_
      rintro e w2 ⟨rfl, h2⟩
      have hs2 := h2.wait hu
      rw [h0] at hs2
      have hp1 := h2.put hu 3 (.int .i64 (s.next + 1))
      have hst := hp1.st (set_get hu)
      rw [h0] at hst
      have hwk2 := hide fun k => mem_workers (hp1.drewN k) (set_other ht (by omega))
      have hp2 := hide fun k => hp1.drewN k
      have hlt : ¬ ((m.workers : Int) ≤ s.next + 1) := by omega
      clear hs hpass h2 hp1
      go_wp2_with fail
      go_quiet (first | exact quiet_left (hwk2.out _))
      go_wp2
      go_ret
      have := hp2.out nq
      rw [h0] at this
      exact ⟨rfl, this⟩

set_option maxHeartbeats 400000 in
theorem wait_free (h : R l w) (ht : l[t]? = some (MemK m)) (hu : l[u]? = some (WaitK b s)) (hne : t ≠ u) (h0 : s.at_ = 3) :
    Calls Tryz.prog 165 #[.pointer (some ⟨b, 0, none⟩), .pointer (some ⟨m.b, 0, none⟩)] w (Does ((l.set t (MemK (waitStep m s).1)).set u (WaitK b (waitStep m s).2.1)) (.bool (waitStep m s).2.2)) := by
  obtain ⟨tv, wv, hm⟩ := h.memHdr ht
  have hs := h.wait hu
  by_cases hf : m.locks.getD 0 0 = s.worker
  · have e : waitStep m s = ({ m with locks := m.locks.set 0 (-1) }, s, true) := by rw [waitStep, if_neg (by omega), if_neg (by omega), if_neg (by omega), if_pos hf]
    rw [e]
    have htry := hide (memR_unlock (h.drewN 1) ht 0 s.worker (by decide) (by decide) (by omega) hf)
    · have hu2 := set_other (q := MemK { m with locks := m.locks.set (0 : Int).toNat (-1) }) hu hne
      have es := set_same hu2
      rw [show (0 : Int).toNat = 0 from rfl] at es
      dsimp only
      rw [es]
      clear e hf h
      go_enter Tryz.func165, Tryz.ntmps165
      go_wp2_with fail
      go_region_with (go_at_call 99; refine htry.out.mono ?_; rintro e w2 ⟨rfl, h2⟩)
      all_goals
        replace h2 := hide h2
        go_wp2
        go_ret
        exact ⟨rfl, h2.out⟩
  · have e : waitStep m s = (m, s, true) := by rw [waitStep, if_neg (by omega), if_neg (by omega), if_neg (by omega), if_neg hf]
    rw [e]
    have htry := hide (memR_unlock_other (h.drewN 1) ht 0 s.worker (by decide) (by decide) (by omega) hf)
    have hr := hide (h.drewN 1)
    have es : (l.set t (MemK m)).set u (WaitK b s) = l := by rw [set_same ht, set_same hu]
    rw [es]
    clear e hf h es
    go_enter Tryz.func165, Tryz.ntmps165
    go_wp2_with fail
    go_region_with (go_at_call 99; refine htry.out.mono ?_; rintro e w2 ⟨rfl, rfl⟩)
    all_goals
      go_wp2
      go_ret
      exact ⟨rfl, hr.out⟩
end
end Go.Proofs.YtcgfknpobifecaaGreat
