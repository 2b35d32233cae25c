/- Package walk: Step, Found, Prev, First, Read over a walk; a walk as a kind of frame. Condition: the memory and the walk are there. -/
import Derived.Test.YtkknmecmhefofaaWk
namespace Go.Proofs.Ytkknmecmhefofaa
open Go.RowKit

section
variable {l : List KObj} {w : World} {t u b : Nat} {m : MemS} {s : WalkS}
theorem walk_ready (a p : Value) (w : World) : Calls Try.prog 55 #[a, p] w fun e w' => e = .returned (.bool true) ∧ w = w' := by
  go_enter Try.func55, Try.ntmps55
  go_wp2
  go_ret
  exact ⟨rfl, rfl⟩
set_option maxHeartbeats 400000 in
theorem walk_step (h : R l w) (ht : l[t]? = some (MemK m)) (hu : l[u]? = some (WalkK b s)) (hne : t ≠ u) (hok : WalkOk s) :
    Calls Try.prog 61 #[.pointer (some ⟨b, 0, none⟩), .pointer (some ⟨m.b, 0, none⟩)] w (Does ((l.set t (MemK (walkStep m s).1)).set u (WalkK b (walkStep m s).2.1)) (.bool (walkStep m s).2.2)) := by
  have hs := h.st hu
  dsimp only [walkC] at hs
  cases hk : s.looking
  · have hc := hide (walk_load h ht hu hk)
    rw [hk] at hs
    simp only [Bool.false_eq_true, if_false] at hs
    replace hk := hide hk
    clear h
    go_enter Try.func61, Try.ntmps61
    go_wp2_with fail
    refine hc.out.mono ?_
    rintro e w2 ⟨rfl, h2⟩
    replace h2 := hide h2
    go_wp2
    go_ret
    exact ⟨rfl, h2.out⟩
  · have hc := hide (walk_look h ht hu hne hk hok)
    rw [hk] at hs
    simp only [if_true] at hs
    replace hk := hide hk
    clear h
    go_enter Try.func61, Try.ntmps61
    go_wp2_with fail
    refine hc.out.mono ?_
    rintro e w2 ⟨rfl, h2⟩
    replace h2 := hide h2
    go_wp2
    go_ret
    exact ⟨rfl, h2.out⟩

def foundV (s : WalkS) : Value := if s.found then .tuple #[.int .u64 s.at_, ndV s.node, .bool true] else .tuple #[.int .u64 0, ndV nd0, .bool false]
set_option maxHeartbeats 800000 in
theorem walk_found (h : R l w) (hu : l[u]? = some (WalkK b s)) : Calls Try.prog 57 #[.pointer (some ⟨b, 0, none⟩)] w (Does l (foundV s)) := by
  have hs := h.st hu
  have hlt := lt_of_blk hs
  dsimp only [walkC] at hs
  unfold foundV
  cases hk : s.found
  · rw [hk] at hs
    have hR := hide (h.alloc (.cells #[.string ⟨#[]⟩, .string ⟨#[]⟩, .int .u32 0, .int .u64 0] 36))
    clear hk h
    dsimp only [ndV, nd0]
    go_enter Try.func57, Try.ntmps57
    go_wp2
    refine bodyPost_ret (by simp [results, Try.results57, go_sem]; rfl) rfl ?_
    exact ⟨by simp, hR.out⟩
  · rw [hk] at hs
    have hR := hide (h.alloc (.cells #[.string s.node.key, .string s.node.val, .int .u32 s.node.sum, .int .u64 s.node.next] 36)).drew
    clear hk h
    dsimp only [ndV, nd0]
    go_enter Try.func57, Try.ntmps57
    go_wp2_with fail
    go_region
    all_goals
      go_wp2
      refine bodyPost_ret (by simp [results, Try.results57, go_sem]; rfl) rfl ?_
      exact ⟨by simp, hR.out⟩
set_option maxHeartbeats 400000 in
theorem walk_prev (h : R l w) (hu : l[u]? = some (WalkK b s)) : Calls Try.prog 60 #[.pointer (some ⟨b, 0, none⟩)] w fun e w' => e = .returned (.int .u64 s.prev) ∧ w = w' := by
  have hs := h.st hu
  dsimp only [walkC] at hs
  go_enter Try.func60, Try.ntmps60
  go_wp2
  go_ret
  exact ⟨rfl, rfl⟩
set_option maxHeartbeats 400000 in
theorem walk_first (h : R l w) (hu : l[u]? = some (WalkK b s)) : Calls Try.prog 59 #[.pointer (some ⟨b, 0, none⟩)] w fun e w' => e = .returned (.int .u64 s.first) ∧ w = w' := by
  have hs := h.st hu
  dsimp only [walkC] at hs
  go_enter Try.func59, Try.ntmps59
  go_wp2
  go_ret
  exact ⟨rfl, rfl⟩
set_option maxHeartbeats 400000 in
theorem walk_read (h : R l w) (hu : l[u]? = some (WalkK b s)) : Calls Try.prog 58 #[.pointer (some ⟨b, 0, none⟩)] w fun e w' => e = .returned (.int .i64 s.read) ∧ w = w' := by
  have hs := h.st hu
  dsimp only [walkC] at hs
  go_enter Try.func58, Try.ntmps58
  go_wp2
  go_ret
  exact ⟨rfl, rfl⟩
end
theorem walk_frame (b : Nat) : FrameAt 103 55 61 b := ⟨fun n w => by kernel_rfl, fun n w => by kernel_rfl, fun n w => by kernel_rfl, fun a w => by kernel_rfl, fun a w => by kernel_rfl, fun n w => by kernel_rfl⟩
theorem walkK : FrameK 103 55 61 WalkK (fun _ s => WalkOk s) (fun _ _ => true) walkStep where
  at_ := walk_frame
  ready_ h _ _ _ _ := (walk_ready _ _ _).mono fun e w' ⟨h1, h2⟩ => ⟨h1, h2 ▸ h⟩
  step_ h ht hu hne hi _ := walk_step h ht hu hne hi
  inv {m s} hm hi _ := by
    unfold walkStep
    split
    · split
      · dsimp only
        split
        · exact ⟨hi.at_⟩
        · exact ⟨(hm.read s.at_).1⟩
      · exact hi
    · exact ⟨cellAt_u64 hm _⟩
  blk m s := by
    unfold walkStep
    split
    · split
      · dsimp only; split <;> rfl
      · rfl
    · rfl
theorem WalkOk.start (c x : Int) (k : ByteArray) : WalkOk (walk0 c x k) := ⟨⟨by show (0 : Int) ≤ 0; decide, by show (0 : Int) ≤ 18446744073709551615; decide⟩⟩
end Go.Proofs.Ytkknmecmhefofaa
