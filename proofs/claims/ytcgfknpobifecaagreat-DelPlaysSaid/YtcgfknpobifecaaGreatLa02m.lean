/- What the statements of the package quietuslaw02 come to. No condition. quietuslaw03: Awake. No condition. quietuslaw05: Awake, Made, MemNames. No condition. mem.Finish over a frame that is one object beside the memory; quietuslaw06: Awake. Condition (of the first): its steps are known. -/
import Derived.Test.YtcgfknpobifecaaGreatCe
import Derived.Test.YtcgfknpobifecaaGreatLo
import Derived.Test.YtcgfknpobifecaaGreatMqm
import Derived.Test.YtcgfknpobifecaaGreatMfm
namespace Go.Proofs.YtcgfknpobifecaaGreat
open Go.RowKit

set_option maxHeartbeats 400000 in
theorem law02_awake (w : World) : Calls Tryz.prog 94 #[] w fun e w' => e = .returned (.bool true) ∧ Below w.heap.size w w' := by
  go_enter Tryz.func94, Tryz.ntmps94
  go_wp2_with fail
  refine (cells_new_ok (fun _ => 0) 1 1 (by decide) (by decide) _).mono ?_
  rintro e w1 ⟨o1, b, rfl, hc, he⟩
  go_wp2_with fail
  refine (cells_add hc 0 3 (by decide) (by decide)).mono ?_
  rintro e w2 ⟨o2, rfl, hc2, he2⟩
  go_wp2_with fail
  refine (cells_swap hc2 0 3 9 (by decide) (by decide) (by decide)).mono ?_
  rintro e w3 ⟨o3, rfl, hc3, he3⟩
  go_wp2_with fail
  refine (cells_load hc3 0 (by decide) (by decide)).mono ?_
  rintro e w4 ⟨rfl, rfl⟩
  go_wp2
  go_ret
  exact ⟨rfl, ((he.none.trans he2).trans he3).done (by decide)⟩

end Go.Proofs.YtcgfknpobifecaaGreat

namespace Go.Proofs.YtcgfknpobifecaaGreat
open Go.RowKit

set_option maxHeartbeats 400000 in
theorem law03_awake (w : World) : Calls Tryz.prog 95 #[] w fun e w' => e = .returned (.bool true) ∧ Below w.heap.size w w' := by
  go_enter Tryz.func95, Tryz.ntmps95
  go_wp2_with fail
  refine (locks_new_ok (fun _ => 0) 1 1 (by decide) (by decide) _).mono ?_
  rintro e w1 ⟨o1, b, rfl, hc, he⟩
  go_wp2_with fail
  refine (locks_try hc 0 5 (by decide) (by decide) (by decide) (by decide)).mono ?_
  rintro e w2 ⟨o2, rfl, hc2, he2⟩
  go_wp2_with fail
  refine (locks_try_held hc2 0 6 (by decide) (by decide) (by decide) (by decide)).mono ?_
  rintro e w3 ⟨rfl, rfl⟩
  go_wp2_with fail
  refine (locks_free_other hc2 0 6 (by decide) (by decide) (by decide) (by decide)).mono ?_
  rintro e w3 ⟨rfl, rfl⟩
  go_wp2_with fail
  refine (locks_holder hc2 0 (by decide) (by decide)).mono ?_
  rintro e w3 ⟨rfl, rfl⟩
  go_wp2
  go_ret
  exact ⟨rfl, (he.trans he2).done (by decide)⟩

end Go.Proofs.YtcgfknpobifecaaGreat

namespace Go.Proofs.YtcgfknpobifecaaGreat
open Go.RowKit

section
variable {l : List KObj} {w : World}
set_option maxHeartbeats 800000 in
theorem law05_made (h : R l w) (room workers : Nat) (h0 : 1 ≤ room) (h1 : room ≤ 1024) (h2 : 1 ≤ workers) (h3 : workers ≤ 8) :
    Calls Tryz.prog 7 #[.int .i64 room, .int .i64 workers] w fun e w' => ∃ b cb lb ab, e = .returned (.pointer (some ⟨b, 0, none⟩)) ∧ R (l ++ [MemK (memNew b cb lb ab room workers)]) w' := by
  have hn := hide (mem_new h room workers h0 h1 h2 h3)
  go_enter Tryz.func7, Tryz.ntmps7
  go_wp2_with fail
  refine hn.out.mono ?_
  rintro e w1 ⟨b, cb, lb, ab, rfl, h1⟩
  obtain ⟨tv, wv, hb⟩ := h1.memHdr app_last
  dsimp only [memNew] at hb
  replace h1 := hide h1
  clear hn h
  go_wp2
  go_ret
  exact ⟨b, cb, lb, ab, rfl, h1.out⟩
end

set_option maxRecDepth 100000 in
set_option maxHeartbeats 1600000 in
theorem law05_awake (w : World) : Calls Tryz.prog 63 #[] w fun e w' => e = .returned (.bool true) ∧ Below w.heap.size w w' := by
  have hn := hide (mem_new (R.start w) 4 2 (by decide) (by decide) (by decide) (by decide))
  go_enter Tryz.func63, Tryz.ntmps63
  go_wp2_with fail
  refine hn.out.mono ?_
  rintro e w1 ⟨b, cb, lb, ab, rfl, h1⟩
  have ht : ([BaseK w] ++ [MemK (memNew b cb lb ab 4 2)])[1]? = some (MemK (memNew b cb lb ab 4 2)) := rfl
  obtain ⟨tv, wv, hb⟩ := h1.memHdr ht
  have hl := hide (memR_load h1 ht 0 (by decide) (by simp [memNew]))
  dsimp only [memNew] at hb hl
  have hblk := hide (fun w' (hR : R ([BaseK w] ++ [MemK (memNew b cb lb ab 4 2)]) w') => hR.memHdr ht)
  dsimp only [memNew] at hblk
  have hlen := hide (fun w' (hR : R ([BaseK w] ++ [MemK (memNew b cb lb ab 4 2)]) w') => memR_len hR ht)
  dsimp only [memNew] at hlen
  have hnow := hide (fun w' (hR : R ([BaseK w] ++ [MemK (memNew b cb lb ab 4 2)]) w') => mem_now hR ht)
  have hnw : descV (nowOf (memNew b cb lb ab 4 2)) = .agg #[.int .i64 1, .int .i64 4] := rfl
  rw [hnw] at hnow
  clear hnw
  dsimp only [memNew] at hnow
  replace h1 := hide h1
  clear hn
  go_wp2_with fail
  refine hl.out.mono ?_
  rintro e w' ⟨rfl, rfl⟩
  clear hl
  go_wp2_with fail
  refine (law01_awake _).mono ?_
  rintro e w' ⟨rfl, rfl⟩
  go_wp2_with fail
  refine (law02_awake _).mono ?_
  rintro e w2 ⟨rfl, hb2⟩
  have h2 := h1.out.below hb2
  clear h1 hb hb2
  go_wp2_with fail
  refine (law03_awake _).mono ?_
  rintro e w3 ⟨rfl, hb3⟩
  have h3 := h2.below hb3
  clear h2 hb3
  go_wp2_with fail
  refine (law04_awake _).mono ?_
  rintro e w4 ⟨rfl, hb4⟩
  have h4 := h3.below hb4
  clear h3 hb4
  obtain ⟨tv, wv, hb⟩ := hblk.out _ h4
  have hlen4 := hide (hlen.out _ h4)
  have hnow4 := hide (hnow.out _ h4)
  clear h4
  go_wp2_with fail
  refine hlen4.out.mono ?_
  rintro e w' ⟨rfl, rfl⟩
  go_wp2_with fail
  refine hnow4.out.mono ?_
  rintro e w5 ⟨rfl, h5⟩
  have hbel := h5.done
  clear h5
  go_wp2
  go_ret
  exact ⟨rfl, hbel⟩

end Go.Proofs.YtcgfknpobifecaaGreat

namespace Go.Proofs.YtcgfknpobifecaaGreat
open Go.RowKit

def frStep {τ : Type} (step : MemS → τ → MemS × τ × Bool) (x : MemS × τ) : (MemS × τ) × Bool := (((step x.1 x.2).1, (step x.1 x.2).2.1), (step x.1 x.2).2.2)
def frReady {τ : Type} (ready : MemS → τ → Bool) (x : MemS × τ) : Bool := ready x.1 x.2
/-- A kind of frames, each one object: what its calls come to. -/
structure FrameK {τ : Type} (T : TypeId) (fR fS : FuncId) (K : Nat → τ → KObj) (Inv : MemS → τ → Prop) (ready : MemS → τ → Bool) (step : MemS → τ → MemS × τ × Bool) : Prop where
  at_ : ∀ b, FrameAt T fR fS b
  ready_ : ∀ {l : List KObj} {w : World} {t u b : Nat} {m : MemS} {s : τ}, R l w → l[t]? = some (MemK m) → l[u]? = some (K b s) → t ≠ u → Inv m s →
    Calls Tryz.prog fR #[.pointer (some ⟨b, 0, none⟩), .pointer (some ⟨m.b, 0, none⟩)] w (Does l (.bool (ready m s)))
  step_ : ∀ {l : List KObj} {w : World} {t u b : Nat} {m : MemS} {s : τ}, R l w → l[t]? = some (MemK m) → l[u]? = some (K b s) → t ≠ u → Inv m s → ready m s = true →
    Calls Tryz.prog fS #[.pointer (some ⟨b, 0, none⟩), .pointer (some ⟨m.b, 0, none⟩)] w (Does ((l.set t (MemK (step m s).1)).set u (K b (step m s).2.1)) (.bool (step m s).2.2))
  inv : ∀ {m : MemS} {s : τ}, MemOk m → Inv m s → ready m s = true → Inv (step m s).1 (step m s).2.1
  blk : ∀ (m : MemS) (s : τ), (step m s).1.b = m.b

theorem set2 (l : List KObj) (t u : Nat) (a a' b b' : KObj) (h : t ≠ u) : (((l.set t a).set u b).set t a').set u b' = (l.set t a').set u b' := by
  rw [List.set_comm _ _ h.symm, List.set_set, List.set_set]
theorem fin_R {τ : Type} {T : TypeId} {fR fS : FuncId} {K : Nat → τ → KObj} {Inv : MemS → τ → Prop} {ready : MemS → τ → Bool} {step : MemS → τ → MemS × τ × Bool} (F : FrameK T fR fS K Inv ready step)
    {l : List KObj} {w : World} {t u b : Nat} {m : MemS} {s : τ} (h : R l w) (ht : l[t]? = some (MemK m)) (hu : l[u]? = some (K b s)) (hne : t ≠ u) (hi : Inv m s) (most : Nat) (hm : most ≤ 1000000)
    {r : Nat × Bool × MemS × τ} (hr : finM (frReady ready) (frStep step) most 0 (m, s) = r) :
    Calls Tryz.prog 17 #[.pointer (some ⟨m.b, 0, none⟩), .iface T (.pointer (some ⟨b, 0, none⟩)), .int .i64 most] w
      (Does ((l.set t (MemK r.2.2.1)).set u (K b r.2.2.2)) (.tuple #[.int .i64 r.1, .bool r.2.1])) := by
  subst hr
  refine (mem_finish (fun x w => R ((l.set t (MemK x.1)).set u (K b x.2)) w ∧ Inv x.1 x.2 ∧ x.1.b = m.b) (frReady ready) (frStep step) m.b b T fR fS (F.at_ b) ?_ ?_ most hm (m, s) w ?_).mono ?_
  · rintro ⟨m1, s1⟩ w1 ⟨h1, h2, h3⟩
    dsimp only at h1 h2 h3
    have := F.ready_ h1 (t := t) (u := u) (set_other (set_get ht) hne.symm) (set_get (set_other hu hne)) hne h2
    rw [h3] at this
    refine this.mono ?_
    rintro e w2 ⟨rfl, h4⟩
    exact ⟨rfl, h4, h2, h3⟩
  · rintro ⟨m1, s1⟩ w1 ⟨h1, h2, h3⟩ hrd
    dsimp only at h1 h2 h3
    have hmk := set_other (q := K b s1) (set_get (q := MemK m1) ht) hne.symm
    have := F.step_ h1 (t := t) (u := u) hmk (set_get (set_other hu hne)) hne h2 hrd
    rw [h3] at this
    refine this.mono ?_
    rintro e w2 ⟨rfl, h4⟩
    rw [set2 _ _ _ _ _ _ _ hne] at h4
    exact ⟨rfl, h4, F.inv (h1.memOk hmk) h2 hrd, (F.blk _ _).trans h3⟩
  · refine ⟨?_, hi, rfl⟩
    rw [set_same ht, set_same hu]
    exact h
  · rintro e w2 ⟨he, h4, _⟩
    exact ⟨he, h4⟩

theorem waitK : FrameK 141 222 159 WaitK WaitOk waitReady waitStep where
  at_ := wait_frame
  ready_ h ht hu _ hi := wait_ready h ht hu hi
  step_ h ht hu hne hi _ := wait_step h ht hu hne hi
  inv {m s} hm hi hr := by
    have h1 := hi.small
    have h2 := hi.at_
    have hw := hm.work
    unfold waitStep
    split
    · split
      · exact ⟨by simp, fun h => by simp at h, fun _ => hi.early (by omega), h1, hi.period⟩
      · exact hi
    · split
      · exact ⟨by simp, fun _ => by have := hi.early (by omega); simp; omega, fun h => by simp at h, by simp; exact h1, u64_wrap _⟩
      · split
        · rename_i h3 h4 h5
          have hn := hi.next h5
          dsimp only
          generalize hnn : (if waitPassed m s then s.next + 1 else s.next) = n
          have : n ≤ s.next + 1 := by rw [← hnn]; split <;> omega
          refine ⟨?_, ?_, ?_, ?_, hi.period⟩
          · dsimp only; split <;> omega
          · dsimp only; split <;> omega
          · dsimp only; split <;> omega
          · dsimp only; omega
        · split
          · exact ⟨hi.at_, hi.next, hi.early, h1, hi.period⟩
          · exact hi
  blk m s := by
    unfold waitStep
    split
    · split <;> rfl
    · split
      · rfl
      · split
        · rfl
        · dsimp only; split <;> rfl
def ComeOk (m : MemS) (s : ComeS) : Prop := s.worker < m.workers ∧ U64 s.period
theorem comeK : FrameK 117 216 86 ComeK ComeOk (fun _ _ => true) comeStep where
  at_ := come_frame
  ready_ h _ _ _ _ := (come_ready _ _ _).mono fun e w' ⟨h1, h2⟩ => ⟨h1, h2 ▸ h⟩
  step_ h ht hu hne hi _ := come_step h ht hu hne hi.1 hi.2
  inv {m s} hm hi _ := by
    unfold comeStep
    split
    · exact hi
    · exact ⟨hi.1, hm.cell 0⟩
  blk m s := by unfold comeStep; split <;> rfl
theorem goneK : FrameK 167 223 141 GoneK (fun m k => k < m.workers) (fun _ _ => true) (fun m k => (goneStep m k, k, true)) where
  at_ := gone_frame
  ready_ h _ _ _ _ := (gone_ready _ _ _).mono fun e w' ⟨h1, h2⟩ => ⟨h1, h2 ▸ h⟩
  step_ h ht hu hne hi _ := by
    have := gone_step h ht hu hi
    rwa [set_same (set_other hu hne)]
  inv _ hi _ := hi
  blk m s := rfl

theorem law06_run1 (b cb lb ab : Nat) : finM (frReady fun _ _ => true) (frStep comeStep) 9 0 (memNew b cb lb ab 1 2, ⟨1, false, 0⟩) =
    (2, true, ({ memNew b cb lb ab 1 2 with cells := [1, 0, 0, 1, 0] }, ⟨1, true, 1⟩)) := rfl
theorem law06_run2 (b cb lb ab : Nat) : finM (frReady waitReady) (frStep waitStep) 9 0 ({ memNew b cb lb ab 1 2 with cells := [1, 0, 0, 1, 0] }, ⟨0, 0, 0, 0⟩) =
    (3, false, ({ memNew b cb lb ab 1 2 with cells := [2, 0, 0, 1, 0], locks := [0, -1, -1, -1, -1, -1] }, ⟨0, 2, 2, 1⟩)) := rfl
theorem law06_run3 (b cb lb ab : Nat) : finM (frReady fun _ _ => true) (frStep fun m k => (goneStep m k, k, true)) 9 0 ({ memNew b cb lb ab 1 2 with cells := [2, 0, 0, 1, 0], locks := [0, -1, -1, -1, -1, -1] }, 1) =
    (1, true, ({ memNew b cb lb ab 1 2 with cells := [2, 0, 0, 0, 0], locks := [0, -1, -1, -1, -1, -1] }, 1)) := rfl
theorem law06_run4 (b cb lb ab : Nat) : finM (frReady waitReady) (frStep waitStep) 9 0 ({ memNew b cb lb ab 1 2 with cells := [2, 0, 0, 0, 0], locks := [0, -1, -1, -1, -1, -1] }, ⟨0, 2, 2, 1⟩) =
    (2, true, ({ memNew b cb lb ab 1 2 with cells := [2, 0, 0, 0, 0], locks := [-1, -1, -1, -1, -1, -1] }, ⟨0, 3, 2, 2⟩)) := rfl

set_option maxRecDepth 100000 in
set_option maxHeartbeats 1600000 in
theorem law06_awake (w : World) : Calls Tryz.prog 68 #[] w fun e w' => e = .returned (.bool true) ∧ Below w.heap.size w w' := by
  have hn := hide (law05_made (R.start w) 1 2 (by decide) (by decide) (by decide) (by decide))
  go_enter Tryz.func68, Tryz.ntmps68
  go_wp2_with fail
  refine hn.out.mono ?_
  rintro e w1 ⟨b, cb, lb, ab, rfl, h1⟩
  clear hn
  have hc1 := hide (qsbr_enter h1 1)
  clear h1
  go_wp2_with fail
  refine hc1.out.mono ?_
  rintro e w2 ⟨b2, rfl, h2⟩
  clear hc1
  have hc2 := hide (qsbr_sync h2 0)
  clear h2
  go_wp2_with fail
  refine hc2.out.mono ?_
  rintro e w3 ⟨b3, rfl, h3⟩
  clear hc2
  have hc3 := hide (fin_R comeK h3 (t := 1) (u := 2) rfl rfl (by decide) ⟨show 1 < 2 by decide, by decide, by decide⟩ 9 (by decide) (law06_run1 b cb lb ab))
  clear h3
  go_wp2_with fail
  refine hc3.out.mono ?_
  rintro e w4 ⟨rfl, h4⟩
  clear hc3
  have hc4 := hide (fin_R waitK h4 (t := 1) (u := 3) rfl rfl (by decide) ⟨by decide, fun h => by simp at h, fun _ => rfl, by decide, by decide, by decide⟩ 9 (by decide) (law06_run2 b cb lb ab))
  clear h4
  go_wp2_with fail
  refine hc4.out.mono ?_
  rintro e w5 ⟨rfl, h5⟩
  clear hc4
  have hc5 := hide (qsbr_leave h5 1)
  clear h5
  go_wp2_with fail
  refine hc5.out.mono ?_
  rintro e w6 ⟨b6, rfl, h6⟩
  clear hc5
  have hin : Hid (Calls _ _ _ _ (Does _ (.bool true))) := hide (qsbr_in h6 (t := 1) rfl 1 (show 1 < 2 by decide))
  clear h6
  go_wp2_with fail
  refine hin.out.mono ?_
  rintro e w7 ⟨rfl, h7⟩
  clear hin
  have hc7 := hide (fin_R goneK h7 (t := 1) (u := 4) rfl rfl (by decide) (show 1 < 2 by decide) 9 (by decide) (law06_run3 b cb lb ab))
  clear h7
  go_wp2_with fail
  refine hc7.out.mono ?_
  rintro e w8 ⟨rfl, h8⟩
  clear hc7
  have hc8 := hide (fin_R waitK h8 (t := 1) (u := 3) rfl rfl (by decide) ⟨by decide, fun _ => show 1 < 2 by decide, fun h => by simp at h, by decide, by decide, by decide⟩ 9 (by decide) (law06_run4 b cb lb ab))
  clear h8
  go_wp2_with fail
  refine hc8.out.mono ?_
  rintro e w9 ⟨rfl, h9⟩
  clear hc8
  replace h9 := hide h9
  go_wp2_with fail
  refine (law05_awake _).mono ?_
  rintro e w10 ⟨rfl, hb⟩
  have h10 := h9.out.below hb
  have hin : Hid (Calls _ _ _ _ (Does _ (.bool false))) := hide (qsbr_in h10 (t := 1) rfl 1 (show 1 < 2 by decide))
  clear h9 h10 hb
  go_wp2_with fail
  refine hin.out.mono ?_
  rintro e w11 ⟨rfl, h11⟩
  have hbel := h11.done
  clear h11 hin
  go_wp2
  go_ret
  exact ⟨rfl, hbel⟩
end Go.Proofs.YtcgfknpobifecaaGreat
