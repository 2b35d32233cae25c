/- quietuslaw11: Awake. No condition. quietuslaw12: Awake; DelPlays with many acts. No condition. -/
import Derived.Test.YtcgfknpobifecaaGreatPx
import Derived.Test.YtcgfknpobifecaaGreatLb10m
import Derived.Deep.CutBlock
import Derived.Test.YtcgfknpobifecaaGreatDvm
namespace Go.Proofs.YtcgfknpobifecaaGreat
open Go.RowKit

def kA : ByteArray := ⟨#[97]⟩
def kB : ByteArray := ⟨#[98]⟩
def vX : ByteArray := ⟨#[120]⟩
/-- The memory ahead of the first put, and behind it. -/
def m11 (b cb lb ab : Nat) (k : Nat) : MemS := if k = 0 then memNew b cb lb ab 1 1 else { memNew b cb lb ab 1 1 with cells := [1, 0, 0, 1], ss := [taken slot0 ⟨kA, vX, sumOf kA, 0⟩] }
theorem law11_run0 (b cb lb ab : Nat) : ∃ n s, finM (frReady putReady) (frStep putStep) 50 0 (m11 b cb lb ab 0, put0 0 kA vX) = (n, true, m11 b cb lb ab 1, s) ∧ s.err = 0 ∧ wFound s = false := ⟨(finM (frReady putReady) (frStep putStep) 50 0 (m11 b cb lb ab 0, put0 0 kA vX)).1, (finM (frReady putReady) (frStep putStep) 50 0 (m11 b cb lb ab 0, put0 0 kA vX)).2.2.2, by kernel_rfl, by kernel_rfl, by kernel_rfl⟩
theorem law11_run1 (b cb lb ab : Nat) : ∃ n s, finM (frReady putReady) (frStep putStep) 50 0 (m11 b cb lb ab 1, put0 0 kB vX) = (n, true, m11 b cb lb ab 1, s) ∧ s.err = 4 ∧ wFound s = false := ⟨(finM (frReady putReady) (frStep putStep) 50 0 (m11 b cb lb ab 1, put0 0 kB vX)).1, (finM (frReady putReady) (frStep putStep) 50 0 (m11 b cb lb ab 1, put0 0 kB vX)).2.2.2, by kernel_rfl, by kernel_rfl, by kernel_rfl⟩
theorem law11_run2 (b cb lb ab : Nat) : ∃ n s, finM (frReady putReady) (frStep putStep) 50 0 (m11 b cb lb ab 1, put0 0 kA vX) = (n, true, m11 b cb lb ab 1, s) ∧ s.err = 4 ∧ wFound s = true := ⟨(finM (frReady putReady) (frStep putStep) 50 0 (m11 b cb lb ab 1, put0 0 kA vX)).1, (finM (frReady putReady) (frStep putStep) 50 0 (m11 b cb lb ab 1, put0 0 kA vX)).2.2.2, by kernel_rfl, by kernel_rfl, by kernel_rfl⟩
theorem law11_run (b cb lb ab k : Nat) (hk : k < 3) : ∃ ky n s, ky.size ≤ 9223372036854775807 ∧ (#[.string ⟨#[97]⟩, .string ⟨#[98]⟩, .string ⟨#[97]⟩] : Array Value)[k]? = some (.string ky) ∧
    finM (frReady putReady) (frStep putStep) 50 0 (m11 b cb lb ab k, put0 0 ky vX) = (n, true, m11 b cb lb ab (k + 1), s) ∧ s.err = (if k = 0 then 0 else 4) ∧ wFound s = decide (k = 2) := by
  match k, hk with
  | 0, _ =>
    obtain ⟨n, s, h1, h2, h3⟩ := law11_run0 b cb lb ab
    exact ⟨kA, n, s, by decide, rfl, h1, h2, h3⟩
  | 1, _ =>
    obtain ⟨n, s, h1, h2, h3⟩ := law11_run1 b cb lb ab
    exact ⟨kB, n, s, by decide, rfl, h1, h2, h3⟩
  | 2, _ =>
    obtain ⟨n, s, h1, h2, h3⟩ := law11_run2 b cb lb ab
    exact ⟨kA, n, s, by decide, rfl, h1, h2, h3⟩
theorem m11_ok (b cb lb ab k : Nat) : (m11 b cb lb ab k).gen ≤ 1000000 ∧ GenOk (m11 b cb lb ab k).ss (m11 b cb lb ab k).gen ∧ (m11 b cb lb ab k).ss.length ≤ 1024 ∧ (m11 b cb lb ab k).waiting.length ≤ 1000000 ∧ (m11 b cb lb ab k).b = b := by
  unfold m11
  split
  · exact ⟨Nat.zero_le _, GenOk.start 1, show 1 ≤ 1024 by decide, Nat.zero_le _, rfl⟩
  · exact ⟨Nat.zero_le _, (GenOk.start 1).take 0 ⟨kA, vX, sumOf kA, 0⟩, show 1 ≤ 1024 by decide, Nat.zero_le _, rfl⟩
def Rel11 (w : World) (b cb lb ab g : Nat) (C : Array Value) (k : Nat) (wr : World) : Prop := R [BaseK w, MemK (m11 b cb lb ab k), StK g C 9] wr

set_option maxRecDepth 100000 in
set_option maxHeartbeats 3200000 in
theorem law11_awake (w : World) : Calls Tryz.prog 6 #[] w fun e w' => e = .returned (.bool true) ∧ Below w.heap.size w w' := by
  have hn := hide (law05_made (R.start w) 1 1 (by decide) (by decide) (by decide) (by decide))
  go_enter Tryz.func6, Tryz.ntmps6
  go_wp2_with fail
  refine hn.out.mono ?_
  rintro e w1 ⟨b, cb, lb, ab, rfl, h1⟩
  clear hn
  have hM : Rel11 w b cb lb ab w1.heap.size #[.string ⟨#[97]⟩, .string ⟨#[98]⟩, .string ⟨#[97]⟩] 0 (w1.alloc (.cells #[.string ⟨#[97]⟩, .string ⟨#[98]⟩, .string ⟨#[97]⟩] 9)) := h1.new #[.string ⟨#[97]⟩, .string ⟨#[98]⟩, .string ⟨#[97]⟩] 9
  clear h1
  go_wp2_with fail
  generalize w1.alloc (.cells #[.string ⟨#[97]⟩, .string ⟨#[98]⟩, .string ⟨#[97]⟩] 9) = w2 at *
  generalize w1.heap.size = g at *
  obtain ⟨C, hC⟩ : ∃ C : Array Value, C = #[.string ⟨#[97]⟩, .string ⟨#[98]⟩, .string ⟨#[97]⟩] := ⟨_, rfl⟩
  rw [← hC] at hM
  replace hC := hide hC
  go_loopw [12] (fun i wr => ∃ k : Nat, k ≤ 3 ∧ i = .int .i64 k ∧ Rel11 w b cb lb ab g C k wr) (fun i _ => 3 - (intOf i).toNat)
  case atStart => exact ⟨0, Nat.zero_le _, rfl, hM⟩
  case round =>
    obtain ⟨k, hk, rfl, hR⟩ := hrel
    clear hM
    by_cases hlt : k < 3
    · have hR' := hR
      unfold Rel11 at hR'
      have hbs := hR'.st (t := 2) rfl
      obtain ⟨ky, n, s, hkl, hix, hrun, herr, hfd⟩ := law11_run b cb lb ab k hlt
      rw [← hC.out] at hix
      obtain ⟨o1, o2, o3, o4, o5⟩ := m11_ok b cb lb ab k
      have hnw := hide (put_new hR' 0 ky vX hkl)
      have hki : (k : Int) < 3 := by omega
      replace hrun := hide hrun
      replace herr := hide herr
      replace hfd := hide hfd
      replace o2 := hide o2
      clear hR hR'
      go_wp2_with fail
      refine hnw.out.mono ?_
      rintro e w3 ⟨b3, rfl, h3⟩
      have hfin := fin_R putK h3 (t := 1) (u := 3) rfl rfl (by decide) (PutOk.start _ 0 ky vX (by decide) hkl o1 o2.out o3 o4) 50 (by decide) hrun.out
      rw [o5] at hfin
      replace hfin := hide hfin
      clear hnw h3 hbs
      go_wp2_with fail
      refine hfin.out.mono ?_
      rintro e w4 ⟨rfl, h4⟩
      have hpe := hide (put_err h4 (u := 3) rfl)
      have hph := hide (put_had h4 (u := 3) rfl)
      rw [herr.out] at hpe
      rw [hfd.out] at hph
      have hpr : ∀ w', R ((([BaseK w, MemK (m11 b cb lb ab k), StK g C 9] ++ [PutK b3 (put0 0 ky vX)]).set 1 (MemK (m11 b cb lb ab (k + 1)))).set 3 (PutK b3 s)) w' → Rel11 w b cb lb ab g C (k + 1) w' := fun w' h => R.left (m := [PutK b3 s]) h
      replace hpr := hide hpr
      clear hfin h4
      rcases (by omega : k = 0 ∨ k = 1 ∨ k = 2) with rfl | rfl | rfl
      all_goals
        simp only [if_true, show ¬ (1 : Nat) = 0 by decide, show ¬ (2 : Nat) = 0 by decide, if_false] at hpe
        simp only [show decide ((0 : Nat) = 2) = false by decide, show decide ((1 : Nat) = 2) = false by decide] at hph
        go_wp2_with fail
        refine hpe.out.mono ?_
        rintro e w5 ⟨rfl, rfl⟩
        go_wp2_with fail
        refine hpe.out.mono ?_
        rintro e w5 ⟨rfl, rfl⟩
        go_wp2_with fail
        refine hph.out.mono ?_
        rintro e w5 ⟨rfl, h5⟩
        have h6 := hpr.out _ h5
        clear h5 hpe hph
        go_wp2_with fail
        exact ⟨⟨_, by omega, by go_num, h6⟩, by simp [intOf]⟩
    · obtain rfl : k = 3 := by omega
      replace hR := hide hR
      go_wp2_with fail
      refine (law08_awake _).mono ?_
      rintro e w3 ⟨rfl, hb3⟩
      have h3 := hide (R.below hR.out hb3)
      go_wp2_with fail
      refine (law10_awake _).mono ?_
      rintro e w4 ⟨rfl, hb4⟩
      have hbel := (h3.out.below hb4).done
      go_wp2
      go_ret
      exact ⟨rfl, hbel⟩
end Go.Proofs.YtcgfknpobifecaaGreat

namespace Go.Proofs.YtcgfknpobifecaaGreat
open Go.RowKit

theorem law12_run (b cb lb ab : Nat) : ∃ s, finM (frReady delReady) (frStep delStep) 50 0 (m11 b cb lb ab 0, del0 0 kA) = (5, true, m11 b cb lb ab 0, s) ∧ fnd s.wk = false ∧ fndVal s.wk = ⟨#[]⟩ := ⟨(finM (frReady delReady) (frStep delStep) 50 0 (m11 b cb lb ab 0, del0 0 kA)).2.2.2, by kernel_rfl, by kernel_rfl, by kernel_rfl⟩
set_option maxRecDepth 100000 in
set_option maxHeartbeats 3200000 in
theorem law12_awake (w : World) : Calls Tryz.prog 25 #[] w fun e w' => e = .returned (.bool true) ∧ Below w.heap.size w w' := by
  have hn := hide (law05_made (R.start w) 1 1 (by decide) (by decide) (by decide) (by decide))
  go_enter Tryz.func25, Tryz.ntmps25
  go_wp2_with fail
  refine hn.out.mono ?_
  rintro e w1 ⟨b, cb, lb, ab, rfl, h1⟩
  have hM : R [BaseK w, MemK (m11 b cb lb ab 0)] w1 := h1
  obtain ⟨s, hrun, hf, hv⟩ := law12_run b cb lb ab
  obtain ⟨o1, o2, o3, o4, o5⟩ := m11_ok b cb lb ab 0
  have hwt0 : (m11 b cb lb ab 0).waiting.length = 0 := rfl
  generalize m11 b cb lb ab 0 = m at *
  have hnw := hide (del_new hM 0 kA (by decide))
  replace hrun := hide hrun
  clear hn h1 hM
  go_wp2_with fail
  refine hnw.out.mono ?_
  rintro e w2 ⟨b3, rfl, h3⟩
  have hfin := fin_R delK h3 (t := 1) (u := 2) rfl rfl (by decide) (DelOk.start m 0 kA (by decide) (by decide) o1 o2 o3 o4) 50 (by decide) hrun.out
  rw [o5] at hfin
  replace hfin := hide hfin
  clear hnw h3
  go_wp2_with fail
  refine hfin.out.mono ?_
  rintro e w4 ⟨rfl, h4⟩
  have hph := hide (del_had h4 (u := 2) rfl)
  rw [hf, hv] at hph
  clear hfin h4
  go_wp2_with fail
  refine hph.out.mono ?_
  rintro e w5 ⟨rfl, h5⟩
  replace h5 := hide h5
  clear hph
  go_wp2_with fail
  refine (law11_awake _).mono ?_
  rintro e w6 ⟨rfl, hb6⟩
  have h6 := R.below h5.out hb6
  have hwt := mem_waiting h6 (t := 1) rfl
  rw [hwt0, o5] at hwt
  have hbel := h6.done
  replace hwt := hide hwt
  clear h5 h6
  go_wp2_with fail
  refine hwt.out.mono ?_
  rintro e w7 ⟨rfl, rfl⟩
  go_wp2
  go_ret
  exact ⟨rfl, hbel⟩
set_option maxRecDepth 100000 in
theorem law12_many (c : Int) (a fa : Option Addr) (len cap flen fcap : Nat) (h : 50 < len ∨ 50 < flen) (hl : len ≤ 9223372036854775807) (hf : flen ≤ 9223372036854775807) (w : World) :
    Calls Tryz.prog 4 #[.int .u8 c, .slice a len cap, .slice fa flen fcap] w fun e w' => e = .returned (.bool true) ∧ Below w.heap.size w w' := by
  by_cases h1 : 50 < len
  · have hd : (50 : Int) < (len : Int) := by omega
    go_enter Tryz.func4, Tryz.ntmps4
    go_wp2_with fail
    refine (law12_awake _).mono ?_
    rintro e w1 ⟨rfl, hb⟩
    go_wp2
    go_ret
    exact ⟨rfl, hb⟩
  · have hd : ¬ (50 : Int) < (len : Int) := by omega
    have hf2 : (50 : Int) < (flen : Int) := by omega
    go_enter Tryz.func4, Tryz.ntmps4
    go_wp2_with fail
    refine (law12_awake _).mono ?_
    rintro e w1 ⟨rfl, hb⟩
    go_wp2
    go_ret
    exact ⟨rfl, hb⟩
end Go.Proofs.YtcgfknpobifecaaGreat
