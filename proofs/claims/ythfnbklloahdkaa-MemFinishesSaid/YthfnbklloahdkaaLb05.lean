/- quietuslaw05: MemFinishes. No condition. -/
import Derived.Test.YthfnbklloahdkaaLa05
import Derived.Test.YthfnbklloahdkaaMf
namespace Go.Proofs.Ythfnbklloahdkaa
open Go.RowKit

theorem count_frame (b : Nat) : FrameAt 106 125 126 b where
  nr n w := by kernel_rfl
  ns n w := by kernel_rfl
  mr n w := by kernel_rfl
  ms n w := by kernel_rfl
  cr a w := by kernel_rfl
  cs a w := by kernel_rfl

def cntReady (s : Int × Int) : Bool := decide (0 < s.2)
def cntStep (s : Int × Int) : (Int × Int) × Bool := ((s.1 - 1, s.2 - 1), decide (s.1 - 1 ≤ 0))
theorem cnt_fin (k n : Nat) (l r : Int) (h0 : 0 ≤ r) :
    finM cntReady cntStep k n (l, r) = (n + (min (max l 1) (min r k)).toNat, decide (min (max l 1) (min r k) = max l 1), (l - min (max l 1) (min r k), r - min (max l 1) (min r k))) := by
  induction k generalizing n l r with
  | zero =>
    simp only [finM]
    have h1 : min (max l 1) (min r ((0 : Nat) : Int)) = 0 := by omega
    rw [h1]
    have h2 : ¬ ((0 : Int) = max l 1) := by omega
    simp [h2]
  | succ k ih =>
    rw [finM]
    by_cases hr : 0 < r
    · rw [if_pos (show cntReady (l, r) = true by simpa [cntReady] using hr)]
      by_cases hl : l - 1 ≤ 0
      · rw [if_pos (show (cntStep (l, r)).2 = true by simpa [cntStep] using hl)]
        simp only [cntStep]
        have h1 : min (max l 1) (min r ((k + 1 : Nat) : Int)) = 1 := by omega
        have h2 : max l 1 = 1 := by omega
        rw [h1, h2]
        simp
      · rw [if_neg (show ¬ (cntStep (l, r)).2 = true by simpa [cntStep] using hl)]
        simp only [cntStep]
        rw [ih _ _ _ (by omega)]
        have h1 : min (max l 1) (min r ((k + 1 : Nat) : Int)) = min (max (l - 1) 1) (min (r - 1) (k : Int)) + 1 := by omega
        have h2 : max l 1 = max (l - 1) 1 + 1 := by omega
        have h3 : 0 ≤ min (max (l - 1) 1) (min (r - 1) (k : Int)) := by omega
        rw [h1, h2]
        generalize min (max (l - 1) 1) (min (r - 1) (k : Int)) = q at *
        refine Prod.ext (by simp; omega) (Prod.ext ?_ (Prod.ext ?_ ?_))
        · simp
        · simp; omega
        · simp; omega
    · rw [if_neg (show ¬ cntReady (l, r) = true by simpa [cntReady] using hr)]
      have h1 : min (max l 1) (min r ((k + 1 : Nat) : Int)) = 0 := by omega
      rw [h1]
      have h2 : ¬ ((0 : Int) = max l 1) := by omega
      simp [h2]

/-- A frame of this kind among the objects. -/
def CntIs (l : List KObj) (b : Nat) (s : Int × Int) (w : World) : Prop :=
  R (l ++ [StK b #[.int .i64 s.1, .int .i64 s.2] 108]) w ∧ -1000 ≤ s.1 - s.2 ∧ s.1 ≤ 1000 ∧ 0 ≤ s.2 ∧ s.2 ≤ 1000
set_option maxHeartbeats 400000 in
theorem cnt_ready (l : List KObj) (b mb : Nat) (s : Int × Int) (w : World) (h : CntIs l b s w) :
    Calls Try.prog 125 #[.pointer (some ⟨b, 0, none⟩), .pointer (some ⟨mb, 0, none⟩)] w fun e w' => e = .returned (.bool (cntReady s)) ∧ CntIs l b s w' := by
  have hb := h.1.st app_last
  replace h := hide h
  obtain ⟨x, y⟩ := s
  go_enter Try.func125, Try.ntmps125
  go_wp2
  go_ret
  exact ⟨rfl, h.out⟩
set_option maxHeartbeats 400000 in
theorem cnt_step (l : List KObj) (b mb : Nat) (s : Int × Int) (w : World) (h : CntIs l b s w) (hr : cntReady s = true) :
    Calls Try.prog 126 #[.pointer (some ⟨b, 0, none⟩), .pointer (some ⟨mb, 0, none⟩)] w fun e w' => e = .returned (.bool (cntStep s).2) ∧ CntIs l b (cntStep s).1 w' := by
  obtain ⟨hR, h1, h2, h3, h4⟩ := h
  obtain ⟨x, y⟩ := s
  simp only [cntReady, decide_eq_true_eq] at hr
  dsimp only at h1 h2 h3 h4 hR hr
  have hb := hR.st app_last
  have hp := hide ((hR.put app_last 1 (.int .i64 (y - 1))).put (set_get app_last) 0 (.int .i64 (x - 1)))
  replace hR := hide hR
  go_enter Try.func126, Try.ntmps126
  go_wp2
  go_ret
  refine ⟨rfl, ?_, ?_⟩
  · have := hp.out
    simpa [cntStep] using this
  · simp only [cntStep]; omega

set_option maxRecDepth 100000 in
set_option maxHeartbeats 1600000 in
theorem law05_finishes (left ready most : Nat) (h1 : left ≤ 255) (h2 : ready ≤ 255) (h3 : most ≤ 255) (w : World) :
    Calls Try.prog 11 #[.int .u8 left, .int .u8 ready, .int .u8 most] w fun e w' => e = .returned (.bool true) ∧ Below w.heap.size w w' := by
  have hn := hide (law05_made (R.start w) 1 1 (by decide) (by decide) (by decide) (by decide))
  go_enter Try.func11, Try.ntmps11
  go_wp2_with fail
  refine hn.out.mono ?_
  rintro e w1 ⟨b, cb, lb, ab, rfl, R1⟩
  have hf := hide (mem_finish (CntIs ([BaseK w] ++ [MemK (memNew b cb lb ab 1 1)]) w1.heap.size) cntReady cntStep b w1.heap.size 106 _ _ (count_frame _) (cnt_ready _ _ _) (cnt_step _ _ _) most (by omega) (left, ready)
    (w1.alloc (.cells #[.int .i64 left, .int .i64 ready] 108)) ⟨R1.new _ _, by dsimp only; omega, by dsimp only; omega, by dsimp only; omega, by dsimp only; omega⟩)
  rw [cnt_fin _ _ _ _ (by omega)] at hf
  clear hn R1
  rcases (by omega : ((left : Int) < 1 ∧ ¬ (ready : Int) < 1 ∧ ¬ (most : Int) < 1) ∨ ((left : Int) < 1 ∧ (ready : Int) < 1 ∧ ¬ (most : Int) < ready) ∨ ((left : Int) < 1 ∧ ¬ (ready : Int) < 1 ∧ (most : Int) < 1) ∨ (¬ (left : Int) < 1 ∧ ¬ (ready : Int) < (left : Int) ∧ ¬ (most : Int) < (left : Int)) ∨ (¬ (left : Int) < 1 ∧ (ready : Int) < (left : Int) ∧ ¬ (most : Int) < ready) ∨ (¬ (left : Int) < 1 ∧ (ready : Int) < (left : Int) ∧ (most : Int) < ready) ∨ (¬ (left : Int) < 1 ∧ ¬ (ready : Int) < (left : Int) ∧ (most : Int) < (left : Int))) with ⟨c1, c2, c3⟩ | ⟨c1, c2, c3⟩ | ⟨c1, c2, c3⟩ | ⟨c1, c2, c3⟩ | ⟨c1, c2, c3⟩ | ⟨c1, c2, c3⟩ | ⟨c1, c2, c3⟩
  · have e1 : min (max (left : Int) 1) (min (ready : Int) (most : Int)) = (1 : Int) := by omega
    have e2 : max (left : Int) 1 = 1 := by omega
    have e3 : ((0 + (Int.toNat 1) : Nat) : Int) = 1 := by omega
    have e4 : decide ((1 : Int) = 1) = true := by simp; try omega
    rw [e1, e2, e4] at hf
    dsimp only at hf
    rw [e3] at hf
    clear e1 e2 e3 e4
    go_wp2_with fail
    refine hf.out.mono ?_
    rintro e w2 ⟨rfl, h2, _⟩
    clear hf
    go_wp2_with (go_at_call 57; refine (law05_awake _).mono ?_; rintro e w3 ⟨rfl, hb3⟩; have hst := (h2.below hb3).st app_last; have hbel := (h2.below hb3).done; clear h2 hb3)
    go_ret
    exact ⟨by simp; try omega, hbel⟩
  · have e1 : min (max (left : Int) 1) (min (ready : Int) (most : Int)) = (ready : Int) := by omega
    have e2 : max (left : Int) 1 = 1 := by omega
    have e3 : ((0 + (Int.toNat (ready : Int)) : Nat) : Int) = (ready : Int) := by omega
    have e4 : decide ((ready : Int) = 1) = false := by simp; try omega
    rw [e1, e2, e4] at hf
    dsimp only at hf
    rw [e3] at hf
    clear e1 e2 e3 e4
    go_wp2_with fail
    refine hf.out.mono ?_
    rintro e w2 ⟨rfl, h2, _⟩
    clear hf
    go_wp2_with (go_at_call 57; refine (law05_awake _).mono ?_; rintro e w3 ⟨rfl, hb3⟩; have hst := (h2.below hb3).st app_last; have hbel := (h2.below hb3).done; clear h2 hb3)
    go_ret
    exact ⟨by simp; try omega, hbel⟩
  · have e1 : min (max (left : Int) 1) (min (ready : Int) (most : Int)) = (most : Int) := by omega
    have e2 : max (left : Int) 1 = 1 := by omega
    have e3 : ((0 + (Int.toNat (most : Int)) : Nat) : Int) = (most : Int) := by omega
    have e4 : decide ((most : Int) = 1) = false := by simp; try omega
    rw [e1, e2, e4] at hf
    dsimp only at hf
    rw [e3] at hf
    clear e1 e2 e3 e4
    go_wp2_with fail
    refine hf.out.mono ?_
    rintro e w2 ⟨rfl, h2, _⟩
    clear hf
    go_wp2_with (go_at_call 57; refine (law05_awake _).mono ?_; rintro e w3 ⟨rfl, hb3⟩; have hst := (h2.below hb3).st app_last; have hbel := (h2.below hb3).done; clear h2 hb3)
    go_ret
    exact ⟨by simp; try omega, hbel⟩
  · have e1 : min (max (left : Int) 1) (min (ready : Int) (most : Int)) = (left : Int) := by omega
    have e2 : max (left : Int) 1 = (left : Int) := by omega
    have e3 : ((0 + (Int.toNat (left : Int)) : Nat) : Int) = (left : Int) := by omega
    have e4 : decide ((left : Int) = (left : Int)) = true := by simp; try omega
    rw [e1, e2, e4] at hf
    dsimp only at hf
    rw [e3] at hf
    clear e1 e2 e3 e4
    go_wp2_with fail
    refine hf.out.mono ?_
    rintro e w2 ⟨rfl, h2, _⟩
    clear hf
    go_wp2_with (go_at_call 57; refine (law05_awake _).mono ?_; rintro e w3 ⟨rfl, hb3⟩; have hst := (h2.below hb3).st app_last; have hbel := (h2.below hb3).done; clear h2 hb3)
    go_ret
    exact ⟨by simp; try omega, hbel⟩
  · have e1 : min (max (left : Int) 1) (min (ready : Int) (most : Int)) = (ready : Int) := by omega
    have e2 : max (left : Int) 1 = (left : Int) := by omega
    have e3 : ((0 + (Int.toNat (ready : Int)) : Nat) : Int) = (ready : Int) := by omega
    have e4 : decide ((ready : Int) = (left : Int)) = false := by simp; try omega
    rw [e1, e2, e4] at hf
    dsimp only at hf
    rw [e3] at hf
    clear e1 e2 e3 e4
    go_wp2_with fail
    refine hf.out.mono ?_
    rintro e w2 ⟨rfl, h2, _⟩
    clear hf
    go_wp2_with (go_at_call 57; refine (law05_awake _).mono ?_; rintro e w3 ⟨rfl, hb3⟩; have hst := (h2.below hb3).st app_last; have hbel := (h2.below hb3).done; clear h2 hb3)
    go_ret
    exact ⟨by simp; try omega, hbel⟩
  · have e1 : min (max (left : Int) 1) (min (ready : Int) (most : Int)) = (most : Int) := by omega
    have e2 : max (left : Int) 1 = (left : Int) := by omega
    have e3 : ((0 + (Int.toNat (most : Int)) : Nat) : Int) = (most : Int) := by omega
    have e4 : decide ((most : Int) = (left : Int)) = false := by simp; try omega
    rw [e1, e2, e4] at hf
    dsimp only at hf
    rw [e3] at hf
    clear e1 e2 e3 e4
    go_wp2_with fail
    refine hf.out.mono ?_
    rintro e w2 ⟨rfl, h2, _⟩
    clear hf
    go_wp2_with (go_at_call 57; refine (law05_awake _).mono ?_; rintro e w3 ⟨rfl, hb3⟩; have hst := (h2.below hb3).st app_last; have hbel := (h2.below hb3).done; clear h2 hb3)
    go_ret
    exact ⟨by simp; try omega, hbel⟩
  · have e1 : min (max (left : Int) 1) (min (ready : Int) (most : Int)) = (most : Int) := by omega
    have e2 : max (left : Int) 1 = (left : Int) := by omega
    have e3 : ((0 + (Int.toNat (most : Int)) : Nat) : Int) = (most : Int) := by omega
    have e4 : decide ((most : Int) = (left : Int)) = false := by simp; try omega
    rw [e1, e2, e4] at hf
    dsimp only at hf
    rw [e3] at hf
    clear e1 e2 e3 e4
    go_wp2_with fail
    refine hf.out.mono ?_
    rintro e w2 ⟨rfl, h2, _⟩
    clear hf
    go_wp2_with (go_at_call 57; refine (law05_awake _).mono ?_; rintro e w3 ⟨rfl, hb3⟩; have hst := (h2.below hb3).st app_last; have hbel := (h2.below hb3).done; clear h2 hb3)
    go_ret
    exact ⟨by simp; try omega, hbel⟩
end Go.Proofs.Ythfnbklloahdkaa
