/- mem.Finish over a frame that is one object beside the memory; quietuslaw06: Awake. Condition (of the first): its steps are known. -/
import Derived.Test.YtcoaemjoanbemaaQt
import Derived.Test.YtcoaemjoanbemaaLa05
namespace Go.Proofs.Ytcoaemjoanbemaa
open Go.RowKit

def frStep {τ : Type} (step : MemS → τ → MemS × τ × Bool) (x : MemS × τ) : (MemS × τ) × Bool := (((step x.1 x.2).1, (step x.1 x.2).2.1), (step x.1 x.2).2.2)
def frReady {τ : Type} (ready : MemS → τ → Bool) (x : MemS × τ) : Bool := ready x.1 x.2
/-- A kind of frames, each one object: what its calls come to. -/
structure FrameK {τ : Type} (T : TypeId) (fR fS : FuncId) (K : Nat → τ → KObj) (Inv : MemS → τ → Prop) (ready : MemS → τ → Bool) (step : MemS → τ → MemS × τ × Bool) : Prop where
  at_ : ∀ b, FrameAt T fR fS b
  ready_ : ∀ {l : List KObj} {w : World} {t u b : Nat} {m : MemS} {s : τ}, R l w → l[t]? = some (MemK m) → l[u]? = some (K b s) → t ≠ u → Inv m s →
    Calls Try.prog fR #[.pointer (some ⟨b, 0, none⟩), .pointer (some ⟨m.b, 0, none⟩)] w (Does l (.bool (ready m s)))
  step_ : ∀ {l : List KObj} {w : World} {t u b : Nat} {m : MemS} {s : τ}, R l w → l[t]? = some (MemK m) → l[u]? = some (K b s) → t ≠ u → Inv m s → ready m s = true →
    Calls Try.prog fS #[.pointer (some ⟨b, 0, none⟩), .pointer (some ⟨m.b, 0, none⟩)] w (Does ((l.set t (MemK (step m s).1)).set u (K b (step m s).2.1)) (.bool (step m s).2.2))
  inv : ∀ {m : MemS} {s : τ}, MemOk m → Inv m s → ready m s = true → Inv (step m s).1 (step m s).2.1
  blk : ∀ (m : MemS) (s : τ), (step m s).1.b = m.b

theorem set2 (l : List KObj) (t u : Nat) (a a' b b' : KObj) (h : t ≠ u) : (((l.set t a).set u b).set t a').set u b' = (l.set t a').set u b' := by
  rw [List.set_comm _ _ h.symm, List.set_set, List.set_set]
theorem fin_R {τ : Type} {T : TypeId} {fR fS : FuncId} {K : Nat → τ → KObj} {Inv : MemS → τ → Prop} {ready : MemS → τ → Bool} {step : MemS → τ → MemS × τ × Bool} (F : FrameK T fR fS K Inv ready step)
    {l : List KObj} {w : World} {t u b : Nat} {m : MemS} {s : τ} (h : R l w) (ht : l[t]? = some (MemK m)) (hu : l[u]? = some (K b s)) (hne : t ≠ u) (hi : Inv m s) (most : Nat) (hm : most ≤ 1000000)
    {r : Nat × Bool × MemS × τ} (hr : finM (frReady ready) (frStep step) most 0 (m, s) = r) :
    Calls Try.prog 48 #[.pointer (some ⟨m.b, 0, none⟩), .iface T (.pointer (some ⟨b, 0, none⟩)), .int .i64 most] w
      (Does ((l.set t (MemK r.2.2.1)).set u (K b r.2.2.2)) (.tuple #[.int .i64 r.1, .bool r.2.1])) := by
  subst hr
  refine (mem_finish (fun x w => R ((l.set t (MemK x.1)).set u (K b x.2)) w ∧ Inv x.1 x.2 ∧ x.1.b = m.b) (frReady ready) (frStep step) m.b b T fR fS (F.at_ b) ?_ ?_ most hm (m, s) w ?_).mono ?_
  · rintro ⟨m1, s1⟩ w1 ⟨h1, h2, h3⟩
    dsimp only at h1 h2 h3
    have := F.ready_ h1 (t := t) (u := u) (set_other (set_get ht) hne.symm) (set_get (set_other hu hne)) hne h2
    rw [h3] at this
    refine this.mono ?_
    rintro e w2 ⟨rfl, h4⟩
    exact ⟨rfl, h4, h2, h3⟩
  · rintro ⟨m1, s1⟩ w1 ⟨h1, h2, h3⟩ hrd
    dsimp only at h1 h2 h3
    have hmk := set_other (q := K b s1) (set_get (q := MemK m1) ht) hne.symm
    have := F.step_ h1 (t := t) (u := u) hmk (set_get (set_other hu hne)) hne h2 hrd
    rw [h3] at this
    refine this.mono ?_
    rintro e w2 ⟨rfl, h4⟩
    rw [set2 _ _ _ _ _ _ _ hne] at h4
    exact ⟨rfl, h4, F.inv (h1.memOk hmk) h2 hrd, (F.blk _ _).trans h3⟩
  · refine ⟨?_, hi, rfl⟩
    rw [set_same ht, set_same hu]
    exact h
  · rintro e w2 ⟨he, h4, _⟩
    exact ⟨he, h4⟩

theorem waitK : FrameK 82 103 104 WaitK WaitOk waitReady waitStep where
  at_ := wait_frame
  ready_ h ht hu _ hi := wait_ready h ht hu hi
  step_ h ht hu hne hi _ := wait_step h ht hu hne hi
  inv {m s} hm hi hr := by
    have h1 := hi.small
    have h2 := hi.at_
    have hw := hm.work
    unfold waitStep
    split
    · split
      · exact ⟨by simp, fun h => by simp at h, fun _ => hi.early (by omega), h1, hi.period⟩
      · exact hi
    · split
      · exact ⟨by simp, fun _ => by have := hi.early (by omega); simp; omega, fun h => by simp at h, by simp; exact h1, u64_wrap _⟩
      · split
        · rename_i h3 h4 h5
          have hn := hi.next h5
          dsimp only
          generalize hnn : (if waitPassed m s then s.next + 1 else s.next) = n
          have : n ≤ s.next + 1 := by rw [← hnn]; split <;> omega
          refine ⟨?_, ?_, ?_, ?_, hi.period⟩
          · dsimp only; split <;> omega
          · dsimp only; split <;> omega
          · dsimp only; split <;> omega
          · dsimp only; omega
        · split
          · exact ⟨hi.at_, hi.next, hi.early, h1, hi.period⟩
          · exact hi
  blk m s := by
    unfold waitStep
    split
    · split <;> rfl
    · split
      · rfl
      · split
        · rfl
        · dsimp only; split <;> rfl
def ComeOk (m : MemS) (s : ComeS) : Prop := s.worker < m.workers ∧ U64 s.period
theorem comeK : FrameK 88 110 111 ComeK ComeOk (fun _ _ => true) comeStep where
  at_ := come_frame
  ready_ h _ _ _ _ := (come_ready _ _ _).mono fun e w' ⟨h1, h2⟩ => ⟨h1, h2 ▸ h⟩
  step_ h ht hu hne hi _ := come_step h ht hu hne hi.1 hi.2
  inv {m s} hm hi _ := by
    unfold comeStep
    split
    · exact hi
    · exact ⟨hi.1, hm.cell 0⟩
  blk m s := by unfold comeStep; split <;> rfl
theorem goneK : FrameK 90 112 42 GoneK (fun m k => k < m.workers) (fun _ _ => true) (fun m k => (goneStep m k, k, true)) where
  at_ := gone_frame
  ready_ h _ _ _ _ := (gone_ready _ _ _).mono fun e w' ⟨h1, h2⟩ => ⟨h1, h2 ▸ h⟩
  step_ h ht hu hne hi _ := by
    have := gone_step h ht hu hi
    rwa [set_same (set_other hu hne)]
  inv _ hi _ := hi
  blk m s := rfl

theorem law06_run1 (b cb lb ab : Nat) : finM (frReady fun _ _ => true) (frStep comeStep) 9 0 (memNew b cb lb ab 1 2, ⟨1, false, 0⟩) =
    (2, true, ({ memNew b cb lb ab 1 2 with cells := [1, 0, 0, 1, 0] }, ⟨1, true, 1⟩)) := rfl
theorem law06_run2 (b cb lb ab : Nat) : finM (frReady waitReady) (frStep waitStep) 9 0 ({ memNew b cb lb ab 1 2 with cells := [1, 0, 0, 1, 0] }, ⟨0, 0, 0, 0⟩) =
    (3, false, ({ memNew b cb lb ab 1 2 with cells := [2, 0, 0, 1, 0], locks := [0, -1, -1, -1, -1, -1] }, ⟨0, 2, 2, 1⟩)) := rfl
theorem law06_run3 (b cb lb ab : Nat) : finM (frReady fun _ _ => true) (frStep fun m k => (goneStep m k, k, true)) 9 0 ({ memNew b cb lb ab 1 2 with cells := [2, 0, 0, 1, 0], locks := [0, -1, -1, -1, -1, -1] }, 1) =
    (1, true, ({ memNew b cb lb ab 1 2 with cells := [2, 0, 0, 0, 0], locks := [0, -1, -1, -1, -1, -1] }, 1)) := rfl
theorem law06_run4 (b cb lb ab : Nat) : finM (frReady waitReady) (frStep waitStep) 9 0 ({ memNew b cb lb ab 1 2 with cells := [2, 0, 0, 0, 0], locks := [0, -1, -1, -1, -1, -1] }, ⟨0, 2, 2, 1⟩) =
    (2, true, ({ memNew b cb lb ab 1 2 with cells := [2, 0, 0, 0, 0], locks := [-1, -1, -1, -1, -1, -1] }, ⟨0, 3, 2, 2⟩)) := rfl

set_option maxRecDepth 100000 in
set_option maxHeartbeats 1600000 in
theorem law06_awake (w : World) : Calls Try.prog 37 #[] w fun e w' => e = .returned (.bool true) ∧ Below w.heap.size w w' := by
  have hn := hide (law05_made (R.start w) 1 2 (by decide) (by decide) (by decide) (by decide))
  go_enter Try.func37, Try.ntmps37
  go_wp2_with fail
  refine hn.out.mono ?_
  rintro e w1 ⟨b, cb, lb, ab, rfl, h1⟩
  clear hn
  have hc1 := hide (qsbr_enter h1 1)
  clear h1
  go_wp2_with fail
  refine hc1.out.mono ?_
  rintro e w2 ⟨b2, rfl, h2⟩
  clear hc1
  have hc2 := hide (qsbr_sync h2 0)
  clear h2
  go_wp2_with fail
  refine hc2.out.mono ?_
  rintro e w3 ⟨b3, rfl, h3⟩
  clear hc2
  have hc3 := hide (fin_R comeK h3 (t := 1) (u := 2) rfl rfl (by decide) ⟨show 1 < 2 by decide, by decide, by decide⟩ 9 (by decide) (law06_run1 b cb lb ab))
  clear h3
  go_wp2_with fail
  refine hc3.out.mono ?_
  rintro e w4 ⟨rfl, h4⟩
  clear hc3
  have hc4 := hide (fin_R waitK h4 (t := 1) (u := 3) rfl rfl (by decide) ⟨by decide, fun h => by simp at h, fun _ => rfl, by decide, by decide, by decide⟩ 9 (by decide) (law06_run2 b cb lb ab))
  clear h4
  go_wp2_with fail
  refine hc4.out.mono ?_
  rintro e w5 ⟨rfl, h5⟩
  clear hc4
  have hc5 := hide (qsbr_leave h5 1)
  clear h5
  go_wp2_with fail
  refine hc5.out.mono ?_
  rintro e w6 ⟨b6, rfl, h6⟩
  clear hc5
  have hin : Hid (Calls _ _ _ _ (Does _ (.bool true))) := hide (qsbr_in h6 (t := 1) rfl 1 (show 1 < 2 by decide))
  clear h6
  go_wp2_with fail
  refine hin.out.mono ?_
  rintro e w7 ⟨rfl, h7⟩
  clear hin
  have hc7 := hide (fin_R goneK h7 (t := 1) (u := 4) rfl rfl (by decide) (show 1 < 2 by decide) 9 (by decide) (law06_run3 b cb lb ab))
  clear h7
  go_wp2_with fail
  refine hc7.out.mono ?_
  rintro e w8 ⟨rfl, h8⟩
  clear hc7
  have hc8 := hide (fin_R waitK h8 (t := 1) (u := 3) rfl rfl (by decide) ⟨by decide, fun _ => show 1 < 2 by decide, fun h => by simp at h, by decide, by decide, by decide⟩ 9 (by decide) (law06_run4 b cb lb ab))
  clear h8
  go_wp2_with fail
  refine hc8.out.mono ?_
  rintro e w9 ⟨rfl, h9⟩
  clear hc8
  replace h9 := hide h9
  go_wp2_with fail
  refine (law05_awake _).mono ?_
  rintro e w10 ⟨rfl, hb⟩
  have h10 := h9.out.below hb
  have hin : Hid (Calls _ _ _ _ (Does _ (.bool false))) := hide (qsbr_in h10 (t := 1) rfl 1 (show 1 < 2 by decide))
  clear h9 h10 hb
  go_wp2_with fail
  refine hin.out.mono ?_
  rintro e w11 ⟨rfl, h11⟩
  have hbel := h11.done
  clear h11 hin
  go_wp2
  go_ret
  exact ⟨rfl, hbel⟩
end Go.Proofs.Ytcoaemjoanbemaa
