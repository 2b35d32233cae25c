/- Package retire: Step, Ready, Left over a drain; a drain as a kind of frame. Condition: the memory and the drain are there. -/
import Derived.Test.YtcoaemjoanbemaaRu
namespace Go.Proofs.Ytcoaemjoanbemaa
open Go.RowKit

section
variable {l : List KObj} {w : World} {t u : Nat} {m : MemS} {b : Nat} {s : DrainS}
theorem R.drainHdr (h : R l w) (hu : l[u]? = some (DrainK b s)) : ∃ a c, blk w b = some (.cells #[.slice a s.left.length c, .iface 82 (.pointer (some ⟨s.wb, 0, none⟩)), .bool s.taken, .bool s.past] 130 (0, 0)) ∧ s.left.length ≤ 9223372036854775807 := by
  obtain ⟨o, _, lv, h1, _, ⟨⟨a, c, rfl⟩, hl, _⟩⟩ := h.get hu
  exact ⟨a, c, h1.heap, hl⟩
set_option maxHeartbeats 800000 in
theorem drain_step (h : R l w) (ht : l[t]? = some (MemK m)) (hu : l[u]? = some (DrainK b s)) (hne : t ≠ u) (hok : DrainOk m s) :
    Calls Try.prog 46 #[.pointer (some ⟨b, 0, none⟩), .pointer (some ⟨m.b, 0, none⟩)] w (Does ((l.set t (MemK (drainStep m s).1)).set u (DrainK b (drainStep m s).2.1)) (.bool (drainStep m s).2.2)) := by
  obtain ⟨a, c, hb, _⟩ := h.drainHdr hu
  by_cases h1 : s.taken = true
  · by_cases h2 : s.past = true
    · have hc := hide (drain_free h ht hu hne hok h1 h2)
      rw [h1, h2] at hb
      replace h1 := hide h1
      replace h2 := hide h2
      clear h hok
      go_enter Try.func46, Try.ntmps46
      go_wp2_with fail
      refine hc.out.mono ?_
      rintro e w2 ⟨rfl, h2⟩
      replace h2 := hide h2
      go_wp2
      go_ret
      exact ⟨rfl, h2.out⟩
    · have e : drainStep m s = ((waitStep m s.ws).1, { s with ws := (waitStep m s.ws).2.1, past := (waitStep m s.ws).2.2 }, (waitStep m s.ws).2.2 && decide (s.left = [])) := by simp [drainStep, h1, h2]
      rw [e]
      have hc := hide (drain_pass h ht hu hne hok)
      have h2' : s.past = false := by simpa using h2
      rw [h1, h2'] at hb
      replace h1 := hide h1
      clear h2 h2' h hok e
      go_enter Try.func46, Try.ntmps46
      go_wp2_with fail
      refine hc.out.mono ?_
      rintro e w2 ⟨rfl, h2⟩
      replace h2 := hide h2
      go_wp2
      go_ret
      exact ⟨rfl, h2.out⟩
  · have h1' : s.taken = false := by simpa using h1
    have e : drainStep m s = ({ m with waiting := [] }, { s with left := m.waiting, taken := true }, false) := by simp [drainStep, h1']
    rw [e]
    have hc := hide (drain_take h ht hu hne h1')
    rw [h1'] at hb
    clear h1 h1' h hok e
    go_enter Try.func46, Try.ntmps46
    go_wp2_with fail
    refine hc.out.mono ?_
    rintro e w2 ⟨rfl, h2⟩
    replace h2 := hide h2
    go_wp2
    go_ret
    exact ⟨rfl, h2.out⟩

set_option maxHeartbeats 800000 in
theorem drain_ready (h : R l w) (ht : l[t]? = some (MemK m)) (hu : l[u]? = some (DrainK b s)) (hne : t ≠ u) (hok : DrainOk m s) :
    Calls Try.prog 45 #[.pointer (some ⟨b, 0, none⟩), .pointer (some ⟨m.b, 0, none⟩)] w (Does l (.bool (drainReady m s))) := by
  obtain ⟨a, c, hb, _⟩ := h.drainHdr hu
  by_cases h1 : s.taken = true
  · by_cases h2 : s.past = true
    · have e : drainReady m s = true := by simp [drainReady, h1, h2]
      rw [e]
      rw [h1, h2] at hb
      replace h := hide h
      replace h1 := hide h1
      replace h2 := hide h2
      clear hok
      go_enter Try.func45, Try.ntmps45
      go_wp2
      go_ret
      exact ⟨rfl, h.out⟩
    · have e : drainReady m s = waitReady m s.ws := by simp [drainReady, h1, h2]
      rw [e]
      have h2' : s.past = false := by simpa using h2
      rw [h1, h2'] at hb
      obtain ⟨lv, hsp⟩ := h.drainSplit hu
      have hr := hide (wait_ready hsp (t := t) (u := (l.set u NoK).length + 1) (app_get (set_other ht hne.symm)) (getP (i := 1) rfl) hok.wait)
      have n1 := (wait_frame s.wb).nr 269 w
      have m1 := (wait_frame s.wb).mr 269 w
      have hul := lt_of_at hu
      replace h1 := hide h1
      clear h2 h2' h hok e hsp
      go_enter Try.func45, Try.ntmps45
      go_wp2_with fail
      refine hr.out.mono ?_
      rintro e w2 ⟨rfl, h2⟩
      have h3 := h2.drainJoin (s := s) (u := u) (by simpa using hul)
      rw [List.set_set, set_same hu] at h3
      replace h3 := hide h3
      clear h2
      go_wp2
      go_ret
      exact ⟨rfl, h3.out⟩
  · have h1' : s.taken = false := by simpa using h1
    have e : drainReady m s = decide (0 < m.waiting.length) := by simp [drainReady, h1']
    rw [e]
    have hc := hide (mem_waiting h ht)
    rw [h1'] at hb
    replace h := hide h
    clear h1 h1' hok e
    go_enter Try.func45, Try.ntmps45
    go_wp2_with fail
    refine hc.out.mono ?_
    rintro e w2 ⟨rfl, rfl⟩
    go_wp2
    go_ret
    exact ⟨by simp, h.out⟩

def SomeSl (l : List KObj) (n : Nat) (e : Ending) (w' : World) : Prop := ∃ a c, e = .returned (.slice a n c) ∧ R l w'
theorem handles_nil (n c : Nat) (w : World) : (binOp .eql 28 (.slice none n c) (.slice none 0 0)).run Try.prog w = .ok (.bool true) w := by kernel_rfl
theorem handles_some (ad : Addr) (n c : Nat) (w : World) : (binOp .eql 28 (.slice (some ad) n c) (.slice none 0 0)).run Try.prog w = .ok (.bool false) w := by kernel_rfl
set_option maxRecDepth 100000 in
set_option maxHeartbeats 800000 in
theorem clone_handles (h : R l w) {v : Value} {xs : List Int} (hu : l[u]? = some (LfK .u64 31 v xs)) (hl : xs.length ≤ 1000000) :
    Calls Try.prog 71 #[v] w (SomeSl l xs.length) := by
  obtain ⟨⟨a, c, rfl⟩, hle, hlf⟩ := h.lf hu
  obtain ⟨o, hr⟩ := h
  replace hr := hide hr
  have S0 : SlAt (upd o w.heap.size 0) (w.alloc (.cells #[] 31)) 0 31 1 (.slice (some ⟨w.heap.size, 0, none⟩) 0 0) 0 [] := SlAt.made #[] 0 0 (Nat.le_refl _) (Nat.zero_le _) rfl rfl (upd_new (Nat.le_refl _))
  have hnew : ∀ v' w2 o2, Ext (upd o w.heap.size 0) o2 (w.alloc (.cells #[] 31)) w2 (fun x => x = 0) → (w.alloc (.cells #[] 31)).grownBy w2 (Value.slice (some ⟨w.heap.size, 0, none⟩) 0 0).ownBlock → SlAt o2 w2 0 31 1 v' xs.length (xs.map (Value.int .u64)) → R l w2 := by
    intro v' w2 o2 he hg _
    refine R.below ⟨o, hr.out⟩ ⟨he.os, he.tape, he.output, Nat.le_trans (by simp) he.size, fun k hk => ?_⟩
    have h1 := hg.block k (by simp; omega) (by simp [Value.ownBlock]; omega)
    exact h1.trans (heap_alloc_old w _ hk)
  replace hnew := hide hnew
  cases a with
  | none =>
    have hx : xs = [] := by
      rcases hlf with h0 | ⟨g, off, cap, cur, hv, _⟩
      · exact h0
      · simp at hv
    subst hx
    have hcmp := handles_nil 0 c w
    go_enter Try.func71, Try.ntmps71
    go_wp2
    go_ret
    exact ⟨_, _, rfl, ⟨o, hr.out⟩⟩
  | some ad =>
    have hnews : Hid (∀ (j : Nat) (x : Value), (xs.map (Value.int .u64))[j]? = some x → (w.alloc (.cells #[] 31)).cell? (ad.add j) = some x) := by
      refine hide fun j x hj => ?_
      rcases hlf with h0 | ⟨g, off, cap, cur, hv, h1, h2, hg, h3⟩
      · subst h0; simp at hj
      · simp at hv
        obtain ⟨rfl, rfl⟩ := hv
        have hadd : (⟨g, off, none⟩ : Addr).add j = ⟨g, off + j, none⟩ := by unfold Addr.add; split <;> simp_all
        rw [hadd, cellq, blk_old _ _ _ (lt_of_blk hg), hg, cellOf_cells]
        simp only [List.getElem?_map, Option.map_eq_some_iff] at hj
        obtain ⟨y, hy, rfl⟩ := hj
        exact h3 j y hy
    clear hlf
    have hcmp := handles_some ad xs.length c w
    go_enter Try.func71, Try.ntmps71
    go_wp2_with (at_builtin; refine many_handle rfl (.tmp 5) (.tmp 6) rfl _ _ _ rfl S0 ad xs.length c (xs.map (Value.int .u64)) rfl (by simp) hnews.out (fun x hx => by obtain ⟨y, _, rfl⟩ := List.mem_map.1 hx; rfl) (by omega) ?_)
    intro v' w2 o2 hs2 he hg _
    have hR := hide (hnew.out _ _ _ he hg hs2)
    obtain ⟨a2, c2, rfl⟩ := hs2.value
    clear hs2 he hg hnew S0
    go_wp2
    go_ret
    exact ⟨a2, c2, rfl, hR.out⟩

set_option maxHeartbeats 800000 in
theorem drain_left (h : R l w) (hu : l[u]? = some (DrainK b s)) (hl : s.left.length ≤ 1000000) :
    Calls Try.prog 47 #[.pointer (some ⟨b, 0, none⟩)] w (SomeSl l s.left.length) := by
  obtain ⟨lv, hsp⟩ := h.drainSplit hu
  have hul := lt_of_at hu
  have hb := hsp.st (getP (i := 0) rfl)
  dsimp only [drainC] at hb
  obtain ⟨⟨la, lc, rfl⟩, hle, _⟩ := hsp.lf (getP (i := 2) rfl)
  have hc := hide (clone_handles hsp (getP (i := 2) rfl) hl)
  clear hsp h
  go_enter Try.func47, Try.ntmps47
  go_wp2_with fail
  refine hc.out.mono ?_
  rintro e w2 ⟨a, c, rfl, h2⟩
  have h3 := h2.drainJoin (s := s) (u := u) (by simpa using hul)
  rw [List.set_set, set_same hu] at h3
  replace h3 := hide h3
  clear h2
  go_wp2
  go_ret
  exact ⟨a, c, rfl, h3.out⟩
end
theorem drain_frame (b : Nat) : FrameAt 93 45 46 b := ⟨fun n w => by kernel_rfl, fun n w => by kernel_rfl, fun n w => by kernel_rfl, fun a w => by kernel_rfl, fun a w => by kernel_rfl, fun n w => by kernel_rfl⟩
theorem waitStep_gen (m : MemS) (s : WaitS) : (waitStep m s).1.gen = m.gen ∧ (waitStep m s).1.waiting = m.waiting := by
  unfold waitStep
  split
  · split <;> exact ⟨rfl, rfl⟩
  · split
    · exact ⟨rfl, rfl⟩
    · split
      · exact ⟨rfl, rfl⟩
      · dsimp only; split <;> exact ⟨rfl, rfl⟩

theorem drain_blk (m : MemS) (s : DrainS) : (drainStep m s).1.b = m.b := by
  unfold drainStep
  split
  · split
    · split
      · rfl
      · unfold freeM; split <;> rfl
    · exact waitK.blk m s.ws
  · rfl
def DrainInv (m : MemS) (s : DrainS) : Prop := DrainOk m s ∧ s.left.length + m.waiting.length + m.gen ≤ 1000000
theorem drain_inv {m : MemS} {s : DrainS} (hm : MemOk m) (hi : DrainInv m s) (hr : drainReady m s = true) : DrainInv (drainStep m s).1 (drainStep m s).2.1 := by
  obtain ⟨⟨h1, h2, h3, h4⟩, h5⟩ := hi
  have hg := waitStep_gen m s.ws
  unfold drainStep
  unfold drainReady at hr
  split
  · rename_i ht
    rw [if_pos ht] at hr
    split
    · split
      · exact ⟨⟨h1, h2, h3, h4⟩, h5⟩
      · rename_i x tl hl
        rw [hl] at h2 h5
        simp at h5
        have e1 : (freeM m x).gen ≤ m.gen + 1 ∧ (freeM m x).workers = m.workers ∧ (freeM m x).waiting = m.waiting := by unfold freeM; split <;> simp
        refine ⟨⟨⟨h1.at_, fun h => by rw [e1.2.1]; exact h1.next h, h1.early, h1.small, h1.period⟩, fun y hy => h2 y (by simp [hy]), by dsimp only; omega, fun h => by rw [ht] at h; cases h⟩, ?_⟩
        rw [e1.2.2]
        dsimp only
        omega
    · rename_i hp
      rw [if_neg hp] at hr
      exact ⟨⟨waitK.inv hm h1 hr, h2, by dsimp only; omega, fun h => by rw [ht] at h; cases h⟩, by dsimp only; rw [hg.1, hg.2]; exact h5⟩
  · rename_i ht
    rw [h4 (by simpa using ht)] at h5
    exact ⟨⟨⟨h1.at_, h1.next, h1.early, h1.small, h1.period⟩, hm.wait, h3, fun h => by cases h⟩, by simp at h5 ⊢; omega⟩
theorem drainK : FrameK 93 45 46 DrainK DrainInv drainReady drainStep where
  at_ := drain_frame
  ready_ h ht hu hne hi := drain_ready h ht hu hne hi.1
  step_ h ht hu hne hi _ := drain_step h ht hu hne hi.1
  inv := drain_inv
  blk := drain_blk
end Go.Proofs.Ytcoaemjoanbemaa
