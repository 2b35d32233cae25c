/- quietuslaw07: RetireSteps. No condition. -/
import Derived.Test.YthfnbklloahdkabLa07
namespace Go.Proofs.Ythfnbklloahdkab
open Go.RowKit

def memD (b cb lb ab wk n : Nat) : MemS := { memNew b cb lb ab 12 wk with cells := [2] ++ List.replicate (wk + 2) 0, ss := List.replicate n doneS ++ List.replicate (12 - n) slot0, gen := n }
set_option maxRecDepth 100000 in
theorem law07_run2 (b cb lb ab wb wk n : Nat) (h1 : 1 ≤ wk) (h2 : wk ≤ 8) (h3 : 1 ≤ n) (h4 : n ≤ 11) :
    finM (frReady drainReady) (frStep drainStep) 100 0 ({ memW b cb lb ab 12 wk n with waiting := [] }, ⟨wb, (memW b cb lb ab 12 wk n).waiting, ⟨wk, 0, 0, 0⟩, true, false⟩) =
      (3 + wk + n, true, (memD b cb lb ab wk n, ⟨wb, [], ⟨wk, 3, 2, wk⟩, true, true⟩)) := by
  rcases (by omega : wk = 1 ∨ wk = 2 ∨ wk = 3 ∨ wk = 4 ∨ wk = 5 ∨ wk = 6 ∨ wk = 7 ∨ wk = 8) with rfl | rfl | rfl | rfl | rfl | rfl | rfl | rfl <;>
    rcases (by omega : n = 1 ∨ n = 2 ∨ n = 3 ∨ n = 4 ∨ n = 5 ∨ n = 6 ∨ n = 7 ∨ n = 8 ∨ n = 9 ∨ n = 10 ∨ n = 11) with rfl | rfl | rfl | rfl | rfl | rfl | rfl | rfl | rfl | rfl | rfl <;> kernel_rfl
theorem memD_spare (b cb lb ab wk n : Nat) (h4 : n ≤ 11) : (freeTo (memD b cb lb ab wk n).ss (memD b cb lb ab wk n).ss.length).length = 12 := by
  rcases (by omega : n = 0 ∨ n = 1 ∨ n = 2 ∨ n = 3 ∨ n = 4 ∨ n = 5 ∨ n = 6 ∨ n = 7 ∨ n = 8 ∨ n = 9 ∨ n = 10 ∨ n = 11) with rfl | rfl | rfl | rfl | rfl | rfl | rfl | rfl | rfl | rfl | rfl | rfl <;> kernel_rfl

theorem ref07_steps (n k : Nat) (h1 : n ≤ 100) (h2 : k ≤ 100) (w : World) : Calls Try.prog 26 #[.int .i64 n, .int .i64 k] w fun e w' => e = .returned (.int .i64 (4 + (k : Int) + n)) ∧ w = w' := by
  go_enter Try.func26, Try.ntmps26
  go_wp2
  go_ret
  exact ⟨by go_num, rfl⟩

/-- What RetireSteps' loop keeps. -/
def Rel07 (w : World) (b cb lb ab b2 wb2 wk n i : Nat) (wr : World) : Prop := i ≤ n ∧ R [BaseK w, MemK (memW b cb lb ab 12 wk i), DrainK b2 ⟨wb2, [], ⟨wk, 0, 0, 0⟩, false, false⟩] wr

set_option maxRecDepth 100000 in
set_option maxHeartbeats 4000000 in
theorem law07_steps (x y : Int) (hx0 : 0 ≤ x) (hx1 : x ≤ 255) (hy0 : 0 ≤ y) (hy1 : y ≤ 255) (w : World) :
    Calls Try.prog 4 #[.int .u8 x, .int .u8 y] w fun e w' => e = .returned (.bool true) ∧ Below w.heap.size w w' := by
  obtain ⟨wk, hwk⟩ : ∃ k : Nat, x % 8 + 1 = k := ⟨(x % 8 + 1).toNat, by omega⟩
  obtain ⟨n, hn⟩ : ∃ k : Nat, y % 12 = k := ⟨(y % 12).toNat, by omega⟩
  have hw1 : 1 ≤ wk := by omega
  have hw8 : wk ≤ 8 := by omega
  have hn11 : n ≤ 11 := by omega
  have hmd := hide (law05_made (R.start w) 12 wk (by decide) (by decide) hw1 hw8)
  go_enter Try.func4, Try.ntmps4
  go_wp2_with fail
  refine hmd.out.mono ?_
  rintro e w1 ⟨b, cb, lb, ab, rfl, h1⟩
  rw [← memW_0] at h1
  have hnw := hide (retire_new h1 wk)
  clear hmd h1
  go_wp2_with fail
  refine hnw.out.mono ?_
  rintro e w2 ⟨b2, wb2, rfl, h2⟩
  have hrd : Hid (Calls _ _ _ _ (Does _ (.bool false))) := hide (drain_ready h2 (t := 1) (u := 2) rfl rfl (by decide) (DrainInv.start _ wb2 wk (by omega) (by simp [memW, memNew])).1)
  clear hnw h2
  go_wp2_with fail
  refine hrd.out.mono ?_
  rintro e w3 ⟨rfl, h3⟩
  have hlf := hide (drain_left h3 (u := 2) rfl (by simp))
  clear hrd h3
  go_wp2_with fail
  refine hlf.out.mono ?_
  rintro e w4 ⟨la, lc, rfl, h4⟩
  have hR : Rel07 w b cb lb ab b2 wb2 wk n 0 w4 := ⟨Nat.zero_le _, h4⟩
  clear hlf h4
  go_wp2_with fail
  go_loopw [40] (fun i wr => ∃ k : Nat, i = .int .i64 k ∧ Rel07 w b cb lb ab b2 wb2 wk n k wr)
    (fun i _ => n - (intOf i).toNat)
  case atStart => exact ⟨0, rfl, hR⟩
  case round =>
    obtain ⟨k, rfl, hk, h5⟩ := hrel
    clear hR
    by_cases hlt : k < n
    · obtain ⟨tv, wv, hb⟩ := h5.memHdr (t := 1) rfl
      have hal := memR_alloc h5 (t := 1) rfl nd0 nd0_ok (show (0 : Nat) ≤ 1000000 by decide) k (ssN_free 12 k (by omega))
      rw [(memW_alloc b cb lb ab 12 wk k (by omega)).1] at hal
      dsimp only [ndV, nd0] at hal
      dsimp only [memW, memNew] at hb
      replace hal := hide hal
      clear h5
      go_wp2_with fail
      refine hal.out.mono ?_
      rintro e w6 ⟨rfl, h6⟩
      have hrt := mem_retire h6 (t := 1) rfl ((k : Int) + 1) ⟨by omega, by omega⟩ (by simp [memW]; omega)
      replace hrt := hide hrt
      clear hal h6 hb
      go_wp2_with fail
      refine hrt.out.mono ?_
      rintro e w7 ⟨rfl, h7⟩
      have h8 : Rel07 w b cb lb ab b2 wb2 wk n (k + 1) w7 := by
        refine ⟨by omega, ?_⟩
        rw [← (memW_alloc b cb lb ab 12 wk k (by omega)).2]
        exact h7
      clear h7 hrt
      go_wp2_with fail
      exact ⟨⟨k + 1, by go_num, h8⟩, by simp [intOf]; omega⟩
    · obtain rfl : k = n := by omega
      by_cases hk0 : k = 0
      · subst hk0
        replace h5 := hide h5
        go_wp2_with fail
        refine (law07_awake _).mono ?_
        rintro e w6 ⟨rfl, hb6⟩
        have hbel := (h5.out.below hb6).done
        go_wp2
        go_ret
        exact ⟨rfl, hbel⟩
      · have hst : Hid (Calls _ _ _ _ (Does _ (.bool false))) := hide (drain_step h5 (t := 1) (u := 2) rfl rfl (by decide) (DrainInv.start _ wb2 wk (by omega) (by simp [memW, memNew]; omega)).1)
        have hk1 : ((k : Int) == 0) = false := by simp; omega
        clear h5
        go_wp2_with fail
        refine hst.out.mono ?_
        rintro e w6 ⟨rfl, h6⟩
        have h6' : R [BaseK w, MemK { memW b cb lb ab 12 wk k with waiting := [] }, DrainK b2 ⟨wb2, (memW b cb lb ab 12 wk k).waiting, ⟨wk, 0, 0, 0⟩, true, false⟩] w6 := h6
        have hwl : (memW b cb lb ab 12 wk k).waiting.length = k := by simp [memW]
        have hlf := hide (drain_left h6' (u := 2) rfl (by dsimp only; omega))
        dsimp only at hlf
        rw [hwl] at hlf
        clear hst h6 h6'
        go_wp2_with fail
        refine hlf.out.mono ?_
        rintro e w7 ⟨la2, lc2, rfl, h7⟩
        have hwt : Hid (Calls _ _ _ _ (fun e w' => e = .returned (.int .i64 0) ∧ w7 = w')) := hide (mem_waiting h7 (t := 1) rfl)
        have hfin := hide (fin_R drainK h7 (t := 1) (u := 2) rfl rfl (by decide) ?_ 100 (by decide) (law07_run2 b cb lb ab wb2 wk k hw1 hw8 (by omega) hn11))
        · clear hlf h7
          go_wp2_with fail
          refine hwt.out.mono ?_
          rintro e w8 ⟨rfl, rfl⟩
          clear hwt
          go_wp2_with fail
          refine hfin.out.mono ?_
          rintro e w9 ⟨rfl, h9⟩
          replace h9 := hide h9
          clear hfin
          go_wp2_with fail
          refine (law07_awake _).mono ?_
          rintro e w10 ⟨rfl, hb10⟩
          have h10 := h9.out.below hb10
          clear h9 hb10
          have hrs := hide (ref07_steps k wk (by omega) (by omega) w10)
          obtain ⟨tv, wv, hb⟩ := h10.memHdr (t := 1) rfl
          have hsp := memR_spare h10 (t := 1) rfl
          rw [memD_spare _ _ _ _ _ _ hn11] at hsp
          replace hsp := hide hsp
          have hft := hide (memR_fault h10 (t := 1) rfl)
          have hl2 := hide (drain_left h10 (u := 2) rfl (by simp))
          dsimp only [memD, memNew] at hb hsp hft
          clear h10
          go_wp2_with fail
          refine hrs.out.mono ?_
          rintro e w11 ⟨rfl, rfl⟩
          go_wp2_with fail
          refine hsp.out.mono ?_
          rintro e w11 ⟨rfl, rfl⟩
          go_wp2_with fail
          refine hft.out.mono ?_
          rintro e w11 ⟨rfl, rfl⟩
          go_wp2_with fail
          refine hl2.out.mono ?_
          rintro e w11 ⟨la3, lc3, rfl, h11⟩
          have hbel := h11.done
          clear h11 hl2
          go_wp2
          go_ret
          exact ⟨rfl, hbel⟩
        · refine ⟨⟨⟨?_, fun h => ?_, fun _ => rfl, ⟨?_, ?_⟩, ?_, ?_⟩, fun x hx => ?_, ?_, fun h => ?_⟩, ?_⟩
          · show (0 : Nat) ≤ 3; decide
          · simp at h
          · show (0 : Nat) ≤ 8; decide
          · show wk ≤ 1000; omega
          · show (0 : Int) ≤ 0; decide
          · show (0 : Int) ≤ 18446744073709551615; decide
          · simp only [memW, List.mem_map, List.mem_range] at hx
            obtain ⟨j, hj, rfl⟩ := hx
            exact ⟨by omega, by omega⟩
          · show (0 : Nat) ≤ 1000000; decide
          · simp at h
          · simp [memW, memNew]; omega
end Go.Proofs.Ythfnbklloahdkab
