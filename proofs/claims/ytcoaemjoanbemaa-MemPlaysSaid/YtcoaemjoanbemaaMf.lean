/- mem.Finish over any kind of frame whose Ready and Step are known. Condition: they are. -/
import Derived.Test.YtcoaemjoanbemaaMq
namespace Go.Proofs.Ytcoaemjoanbemaa
open Go.RowKit

/-- What Finish comes to: how many steps, whether it was done, what is left. -/
def finM {σ : Type} (ready : σ → Bool) (step : σ → σ × Bool) : Nat → Nat → σ → Nat × Bool × σ
  | 0, n, s => (n, false, s)
  | k + 1, n, s => if ready s then (if (step s).2 then (n + 1, true, (step s).1) else finM ready step k (n + 1) (step s).1) else (n, false, s)

/-- A kind of frames: how its methods are found. -/
structure FrameAt (T : TypeId) (fR fS : FuncId) (b : Nat) : Prop where
  nr : ∀ n w, (nilAhead (n + 1) T (.pointer (some ⟨b, 0, none⟩)) "Ready").run Try.prog w = .ok (some false) w
  ns : ∀ n w, (nilAhead (n + 1) T (.pointer (some ⟨b, 0, none⟩)) "Step").run Try.prog w = .ok (some false) w
  mr : ∀ n w, (method (n + 1) T (.pointer (some ⟨b, 0, none⟩)) "Ready").run Try.prog w = .ok (fR, .pointer (some ⟨b, 0, none⟩)) w
  cr : ∀ a w, (callFunc fR a).run Try.prog w = .ok (.enter fR a) w
  cs : ∀ a w, (callFunc fS a).run Try.prog w = .ok (.enter fS a) w
  ms : ∀ n w, (method (n + 1) T (.pointer (some ⟨b, 0, none⟩)) "Step").run Try.prog w = .ok (fS, .pointer (some ⟨b, 0, none⟩)) w

set_option maxRecDepth 100000 in
set_option maxHeartbeats 1000000 in
theorem mem_finish {σ : Type} (St : σ → World → Prop) (ready : σ → Bool) (step : σ → σ × Bool) (mb b : Nat) (T : TypeId) (fR fS : FuncId) (F : FrameAt T fR fS b)
    (hr : ∀ s w, St s w → Calls Try.prog fR #[.pointer (some ⟨b, 0, none⟩), .pointer (some ⟨mb, 0, none⟩)] w fun e w' => e = .returned (.bool (ready s)) ∧ St s w')
    (hs : ∀ s w, St s w → ready s = true → Calls Try.prog fS #[.pointer (some ⟨b, 0, none⟩), .pointer (some ⟨mb, 0, none⟩)] w fun e w' => e = .returned (.bool (step s).2) ∧ St (step s).1 w')
    (most : Nat) (hm : most ≤ 1000000) (s : σ) (w : World) (h : St s w) :
    Calls Try.prog 48 #[.pointer (some ⟨mb, 0, none⟩), .iface T (.pointer (some ⟨b, 0, none⟩)), .int .i64 most] w
      fun e w' => e = .returned (.tuple #[.int .i64 (finM ready step most 0 s).1, .bool (finM ready step most 0 s).2.1]) ∧ St (finM ready step most 0 s).2.2 w' := by
  go_enter Try.func48, Try.ntmps48
  go_wp2_with fail
  go_loopw [10] (fun i wr => ∃ (k : Nat) (s' : σ), k ≤ most ∧ i = .int .i64 k ∧ St s' wr ∧ finM ready step most 0 s = finM ready step (most - k) k s')
    (fun i _ => most - (intOf i).toNat)
  case atStart => exact ⟨0, s, Nat.zero_le _, rfl, h, rfl⟩
  case round =>
    obtain ⟨k, s1, hk, rfl, h1, hf⟩ := hrel
    clear h
    by_cases hlt : k < most
    · obtain ⟨d, hd⟩ : ∃ d, most - k = d + 1 := ⟨most - k - 1, by omega⟩
      rw [hd] at hf
      have n1 := F.nr 269 wr
      have m1 := F.mr 269 wr
      have c1 := F.cr #[.pointer (some ⟨b, 0, none⟩), .pointer (some ⟨mb, 0, none⟩)] wr
      have hr1 := hide (hr s1 _ h1)
      cases hrd : ready s1 with
      | true =>
        rw [hrd] at hr1
        clear h1
        go_wp2_with fail
        refine hr1.out.mono ?_
        rintro e w2 ⟨rfl, h2⟩
        have hs1 := hide (hs s1 _ h2 hrd)
        have n2 := F.ns 269 w2
        have m2 := F.ms 269 w2
        have c2 := F.cs #[.pointer (some ⟨b, 0, none⟩), .pointer (some ⟨mb, 0, none⟩)] w2
        clear n1 m1 c1 hr1
        cases hsd : (step s1).2 with
        | true =>
          rw [hsd] at hs1
          go_wp2_with fail
          refine hs1.out.mono ?_
          rintro e w3 ⟨rfl, h3⟩
          have hres : finM ready step most 0 s = (k + 1, true, (step s1).1) := by rw [hf, finM, if_pos hrd, if_pos hsd]
          go_wp2
          go_ret2
          rw [hres]
          exact ⟨by go_num, h3⟩
        | false =>
          rw [hsd] at hs1
          go_wp2_with fail
          refine hs1.out.mono ?_
          rintro e w3 ⟨rfl, h3⟩
          have hres : finM ready step most 0 s = finM ready step (most - (k + 1)) (k + 1) (step s1).1 := by
            rw [hf, finM, if_pos hrd, if_neg (by rw [hsd]; decide)]
            congr 1
            omega
          go_wp2
          go_roundw
          case rel => exact ⟨k + 1, _, by omega, by go_num, h3, hres⟩
          case measure => simp [intOf]; omega
      | false =>
        rw [hrd] at hr1
        clear h1
        go_wp2_with fail
        refine hr1.out.mono ?_
        rintro e w2 ⟨rfl, h2⟩
        have hres : finM ready step most 0 s = (k, false, s1) := by rw [hf, finM, if_neg (by rw [hrd]; decide)]
        go_wp2
        go_ret2
        rw [hres]
        exact ⟨by go_num, h2⟩
    · obtain rfl : most = k := by omega
      rw [Nat.sub_self] at hf
      have hres : finM ready step most 0 s = (most, false, s1) := by rw [hf, finM]
      go_wp2
      go_ret2
      rw [hres]
      exact ⟨by go_num, h1⟩
end Go.Proofs.Ytcoaemjoanbemaa
