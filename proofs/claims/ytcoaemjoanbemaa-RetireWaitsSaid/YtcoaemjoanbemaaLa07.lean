/- quietuslaw07: Awake, RetireSteps. No condition. -/
import Derived.Test.YtcoaemjoanbemaaRv
namespace Go.Proofs.Ytcoaemjoanbemaa
open Go.RowKit

def usedS : Slot := taken slot0 nd0
def doneS : Slot := ⟨nd0, false, 1⟩
/-- A memory of whose room the first i places are taken, and wait. -/
def memW (b cb lb ab room wk i : Nat) : MemS := { memNew b cb lb ab room wk with ss := List.replicate i usedS ++ List.replicate (room - i) slot0, waiting := (List.range i).map fun j : Nat => (j : Int) + 1 }
theorem memW_0 (b cb lb ab room wk : Nat) : memW b cb lb ab room wk 0 = memNew b cb lb ab room wk := by simp [memW, memNew]
theorem ssN_free (room i : Nat) (h : i < room) : freeAt (List.replicate i usedS ++ List.replicate (room - i) slot0) = some i := by
  refine freeAt_is (by simp; omega) ?_ fun j hj => ?_
  · rw [List.getD_eq_getElem?_getD, List.getElem?_append_right (by simp)]
    simp [List.getElem?_replicate]
    rw [if_pos (by omega)]; rfl
  · rw [List.getD_eq_getElem?_getD, List.getElem?_append_left (by simpa using hj)]
    simp [hj]; rfl
theorem ssN_get (room i : Nat) : (List.replicate i usedS ++ List.replicate (room - i) slot0).getD i slot0 = slot0 := by
  rw [List.getD_eq_getElem?_getD, List.getElem?_append_right (by simp)]
  simp only [List.length_replicate, Nat.sub_self, List.getElem?_replicate]
  split <;> rfl
theorem ssN_set (room i : Nat) (h : i < room) : (List.replicate i usedS ++ List.replicate (room - i) slot0).set i usedS = List.replicate (i + 1) usedS ++ List.replicate (room - (i + 1)) slot0 := by
  rw [List.set_append_right _ _ (by simp), List.length_replicate, Nat.sub_self, show room - i = (room - (i + 1)) + 1 by omega, List.replicate_succ, List.set_cons_zero, List.replicate_succ', List.append_assoc]
  rfl
theorem memW_alloc (b cb lb ab room wk i : Nat) (h : i < room) : hnd (memW b cb lb ab room wk i).ss i = (i : Int) + 1 ∧
    { memW b cb lb ab room wk i with ss := (memW b cb lb ab room wk i).ss.set i (taken ((memW b cb lb ab room wk i).ss.getD i slot0) nd0), waiting := (memW b cb lb ab room wk i).waiting ++ [(i : Int) + 1] } = memW b cb lb ab room wk (i + 1) := by
  constructor
  · simp only [memW, hnd, ssN_get]; rfl
  · simp only [memW, ssN_get]
    rw [show taken slot0 nd0 = usedS from rfl, ssN_set room i h]
    simp [List.range_succ]

theorem DrainInv.start (m : MemS) (wb k : Nat) (hk : k ≤ 1000) (hg : m.waiting.length + m.gen ≤ 1000000) : DrainInv m ⟨wb, [], ⟨k, 0, 0, 0⟩, false, false⟩ := by
  refine ⟨⟨⟨?_, fun h => ?_, fun _ => rfl, ⟨?_, hk⟩, ?_, ?_⟩, fun _ hx => absurd hx List.not_mem_nil, by omega, fun _ => rfl⟩, by simpa using hg⟩
  · show (0 : Nat) ≤ 3; decide
  · simp at h
  · show (0 : Nat) ≤ 8; decide
  · show (0 : Int) ≤ 0; decide
  · show (0 : Int) ≤ 18446744073709551615; decide
theorem law07_run (b cb lb ab wb : Nat) : finM (frReady drainReady) (frStep drainStep) 20 0 (memW b cb lb ab 1 2 1, ⟨wb, [], ⟨2, 0, 0, 0⟩, false, false⟩) =
    (7, true, ({ memNew b cb lb ab 1 2 with cells := [2, 0, 0, 0, 0], ss := [doneS], gen := 1 }, ⟨wb, [], ⟨2, 3, 2, 2⟩, true, true⟩)) := by kernel_rfl
set_option maxRecDepth 100000 in
set_option maxHeartbeats 1600000 in
theorem law07_awake (w : World) : Calls Try.prog 43 #[] w fun e w' => e = .returned (.bool true) ∧ Below w.heap.size w w' := by
  have hn := hide (law05_made (R.start w) 1 2 (by decide) (by decide) (by decide) (by decide))
  go_enter Try.func43, Try.ntmps43
  go_wp2_with fail
  refine hn.out.mono ?_
  rintro e w1 ⟨b, cb, lb, ab, rfl, h1⟩
  clear hn
  rw [← memW_0] at h1
  obtain ⟨tv, wv, hb⟩ := h1.memHdr (t := 1) rfl
  have hal := memR_alloc h1 (t := 1) rfl nd0 nd0_ok (show (0 : Nat) ≤ 1000000 by decide) 0 (ssN_free 1 0 (by decide))
  rw [(memW_alloc b cb lb ab 1 2 0 (by decide)).1] at hal
  dsimp only [ndV, nd0] at hal
  dsimp only [memW, memNew] at hb
  replace hal := hide hal
  clear h1
  go_wp2_with fail
  refine hal.out.mono ?_
  rintro e w2 ⟨rfl, h2⟩
  have hrt := hide (mem_retire h2 (t := 1) rfl 1 ⟨by decide, by decide⟩ (by simp [memW]))
  clear hal h2 hb
  go_wp2_with fail
  refine hrt.out.mono ?_
  rintro e w3 ⟨rfl, h3⟩
  have h3' : R [BaseK w, MemK (memW b cb lb ab 1 2 1)] w3 := h3
  have hnw := hide (retire_new h3' 2)
  clear hrt h3 h3'
  go_wp2_with fail
  refine hnw.out.mono ?_
  rintro e w4 ⟨b4, wb4, rfl, h4⟩
  have hfin := hide (fin_R drainK h4 (t := 1) (u := 2) rfl rfl (by decide) (DrainInv.start _ _ _ (by decide) (by simp [memW, memNew])) 20 (by decide) (law07_run b cb lb ab wb4))
  clear hnw h4
  go_wp2_with fail
  refine hfin.out.mono ?_
  rintro e w5 ⟨rfl, h5⟩
  replace h5 := hide h5
  clear hfin
  go_wp2_with fail
  refine (law06_awake _).mono ?_
  rintro e w6 ⟨rfl, hb6⟩
  have h6 := h5.out.below hb6
  obtain ⟨tv, wv, hb⟩ := h6.memHdr (t := 1) rfl
  have hlv : Hid (Calls _ _ _ _ (fun e w' => e = .returned (.bool false) ∧ w6 = w')) := hide (memR_live h6 (t := 1) rfl 1 ⟨by decide, by decide⟩)
  have hft := hide (memR_fault h6 (t := 1) rfl)
  have hbel := h6.done
  dsimp only [memNew] at hb hft
  clear h5 h6 hb6
  go_wp2_with fail
  refine hlv.out.mono ?_
  rintro e w7 ⟨rfl, rfl⟩
  go_wp2_with fail
  refine hft.out.mono ?_
  rintro e w7 ⟨rfl, rfl⟩
  go_wp2
  go_ret
  exact ⟨rfl, hbel⟩
end Go.Proofs.Ytcoaemjoanbemaa
