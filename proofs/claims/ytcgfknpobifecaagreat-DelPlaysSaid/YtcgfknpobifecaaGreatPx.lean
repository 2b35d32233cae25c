/- Package put: Step, Ready over a put; a put as a kind of frame. Condition: the memory and the put are there. -/
import Derived.Test.YtcgfknpobifecaaGreatPw
namespace Go.Proofs.YtcgfknpobifecaaGreat
open Go.RowKit

section
variable {l : List KObj} {w : World} {t u b : Nat} {m : MemS} {s : PutS}
set_option maxHeartbeats 800000 in
theorem put_step (h : R l w) (ht : l[t]? = some (MemK m)) (hu : l[u]? = some (PutK b s)) (hne : t ≠ u) (hok : PutOk m s) :
    Calls Tryz.prog 193 #[.pointer (some ⟨b, 0, none⟩), .pointer (some ⟨m.b, 0, none⟩)] w (Does ((l.set t (MemK (putStep m s).1)).set u (PutK b (putStep m s).2.1)) (.bool (putStep m s).2.2)) := by
  obtain ⟨⟨hb, wb⟩, h1⟩ := PutK.open_ h hu
  have hs := h1.stP (i := 0) (b := b) (cs := putC b hb wb s) (T := 100) rfl
  dsimp only [putC] at hs
  clear h1
  rcases (by have := hok.phase; omega : s.phase = 0 ∨ s.phase = 1 ∨ s.phase = 2 ∨ s.phase = 3 ∨ s.phase = 4 ∨ s.phase = 5) with h0 | h0 | h0 | h0 | h0 | h0
  · have hc := hide (put_take h ht hu hne hok h0)
    rw [h0, show putF 0 = 45 from rfl] at hs
    replace h0 := hide h0
    clear h hok
    go_enter Tryz.func193, Tryz.ntmps193
    go_wp2_with fail
    refine hc.out.mono ?_
    rintro e w2 ⟨rfl, h2⟩
    replace h2 := hide h2
    go_wp2
    go_ret
    exact ⟨rfl, h2.out⟩
  · have hc := hide (put_look h ht hu hne hok h0)
    rw [h0, show putF 1 = 79 from rfl] at hs
    replace h0 := hide h0
    clear h hok
    go_enter Tryz.func193, Tryz.ntmps193
    go_wp2_with fail
    refine hc.out.mono ?_
    rintro e w2 ⟨rfl, h2⟩
    replace h2 := hide h2
    go_wp2
    go_ret
    exact ⟨rfl, h2.out⟩
  · have hc := hide (put_alloc h ht hu hne hok h0)
    rw [h0, show putF 2 = 111 from rfl] at hs
    replace h0 := hide h0
    clear h hok
    go_enter Tryz.func193, Tryz.ntmps193
    go_wp2_with fail
    refine hc.out.mono ?_
    rintro e w2 ⟨rfl, h2⟩
    replace h2 := hide h2
    go_wp2
    go_ret
    exact ⟨rfl, h2.out⟩
  · have hc := hide (put_link h ht hu hne hok h0)
    rw [h0, show putF 3 = 129 from rfl] at hs
    replace h0 := hide h0
    clear h hok
    go_enter Tryz.func193, Tryz.ntmps193
    go_wp2_with fail
    refine hc.out.mono ?_
    rintro e w2 ⟨rfl, h2⟩
    replace h2 := hide h2
    go_wp2
    go_ret
    exact ⟨rfl, h2.out⟩
  · have hc := hide (put_retire h ht hu hne hok h0)
    rw [h0, show putF 4 = 140 from rfl] at hs
    replace h0 := hide h0
    clear h hok
    go_enter Tryz.func193, Tryz.ntmps193
    go_wp2_with fail
    refine hc.out.mono ?_
    rintro e w2 ⟨rfl, h2⟩
    replace h2 := hide h2
    go_wp2
    go_ret
    exact ⟨rfl, h2.out⟩
  · have hc := hide (put_drop h ht hu hne hok h0)
    rw [h0, show putF 5 = 130 from rfl] at hs
    replace h0 := hide h0
    clear h hok
    go_enter Tryz.func193, Tryz.ntmps193
    go_wp2_with fail
    refine hc.out.mono ?_
    rintro e w2 ⟨rfl, h2⟩
    replace h2 := hide h2
    go_wp2
    go_ret
    exact ⟨rfl, h2.out⟩

set_option maxHeartbeats 800000 in
theorem put_ready (h : R l w) (ht : l[t]? = some (MemK m)) (hu : l[u]? = some (PutK b s)) (hne : t ≠ u) (hok : PutOk m s) :
    Calls Tryz.prog 192 #[.pointer (some ⟨b, 0, none⟩), .pointer (some ⟨m.b, 0, none⟩)] w (Does l (.bool (putReady m s))) := by
  have hul := lt_of_get hu
  obtain ⟨⟨hb, wb⟩, h1⟩ := PutK.open_ h hu
  have hs := h1.stP (i := 0) (b := b) (cs := putC b hb wb s) (T := 100) rfl
  have hrd := hold_ready h1 (memU ht hne) (u := (l.set u NoK).length + 1) (b := hb) (s := s.hold) (getP rfl) hok.hold
  have hcl : ∀ w', R (l.set u NoK ++ (putParts b s (hb, wb)).map single) w' → R l w' := fun w' h' => by
    have := PutK.close (b := b) (s := s) (u := u) (hb, wb) h' (by simpa using hul)
    rwa [List.set_set, set_same hu] at this
  replace hcl := hide hcl
  dsimp only [putC] at hs
  unfold putReady
  cases hh : s.held
  · rw [hh] at hs
    rw [Bool.false_or]
    generalize holdReady m s.hold = x at *
    replace hrd := hide hrd
    replace hh := hide hh
    clear h h1 hok
    go_enter Tryz.func192, Tryz.ntmps192
    go_wp2_with fail
    refine hrd.out.mono ?_
    rintro e w2 ⟨rfl, h2⟩
    have h3 := hide (hcl.out _ h2)
    clear h2 hs hrd
    cases x
    all_goals
      go_wp2
      go_ret
      exact ⟨rfl, h3.out⟩
  · rw [hh] at hs
    rw [Bool.true_or]
    replace hh := hide hh
    replace h := hide h
    clear h1 hok hrd
    go_enter Tryz.func192, Tryz.ntmps192
    go_wp2
    go_ret
    exact ⟨rfl, h.out⟩
end
theorem put_frame (b : Nat) : FrameAt 45 192 193 b := ⟨fun n w => by kernel_rfl, fun n w => by kernel_rfl, fun n w => by kernel_rfl, fun a w => by kernel_rfl, fun a w => by kernel_rfl, fun n w => by kernel_rfl⟩
theorem putK : FrameK 45 192 193 PutK PutOk putReady putStep where
  at_ := put_frame
  ready_ h ht hu hne hi := put_ready h ht hu hne hi
  step_ h ht hu hne hi _ := put_step h ht hu hne hi
  inv hm hi _ := put_inv hm hi
  blk m s := putStep_b m s
end Go.Proofs.YtcgfknpobifecaaGreat
