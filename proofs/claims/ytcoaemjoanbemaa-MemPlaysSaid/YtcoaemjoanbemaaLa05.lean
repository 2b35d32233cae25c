/- quietuslaw05: Awake, Made, MemNames. No condition. -/
import Derived.Test.YtcoaemjoanbemaaMq
import Derived.Test.YtcoaemjoanbemaaLa01
import Derived.Test.YtcoaemjoanbemaaLa02
import Derived.Test.YtcoaemjoanbemaaLw03
namespace Go.Proofs.Ytcoaemjoanbemaa
open Go.RowKit

section
variable {l : List KObj} {w : World}
set_option maxHeartbeats 800000 in
theorem law05_made (h : R l w) (room workers : Nat) (h0 : 1 ≤ room) (h1 : room ≤ 1024) (h2 : 1 ≤ workers) (h3 : workers ≤ 8) :
    Calls Try.prog 36 #[.int .i64 room, .int .i64 workers] w fun e w' => ∃ b cb lb ab, e = .returned (.pointer (some ⟨b, 0, none⟩)) ∧ R (l ++ [MemK (memNew b cb lb ab room workers)]) w' := by
  have hn := hide (mem_new h room workers h0 h1 h2 h3)
  go_enter Try.func36, Try.ntmps36
  go_wp2_with fail
  refine hn.out.mono ?_
  rintro e w1 ⟨b, cb, lb, ab, rfl, h1⟩
  obtain ⟨tv, wv, hb⟩ := h1.memHdr app_last
  dsimp only [memNew] at hb
  replace h1 := hide h1
  clear hn h
  go_wp2
  go_ret
  exact ⟨b, cb, lb, ab, rfl, h1.out⟩
end

set_option maxRecDepth 100000 in
set_option maxHeartbeats 1600000 in
theorem law05_awake (w : World) : Calls Try.prog 14 #[] w fun e w' => e = .returned (.bool true) ∧ Below w.heap.size w w' := by
  have hn := hide (mem_new (R.start w) 4 2 (by decide) (by decide) (by decide) (by decide))
  go_enter Try.func14, Try.ntmps14
  go_wp2_with fail
  refine hn.out.mono ?_
  rintro e w1 ⟨b, cb, lb, ab, rfl, h1⟩
  have ht : ([BaseK w] ++ [MemK (memNew b cb lb ab 4 2)])[1]? = some (MemK (memNew b cb lb ab 4 2)) := rfl
  obtain ⟨tv, wv, hb⟩ := h1.memHdr ht
  have hl := hide (memR_load h1 ht 0 (by decide) (by simp [memNew]))
  dsimp only [memNew] at hb hl
  have hblk := hide (fun w' (hR : R ([BaseK w] ++ [MemK (memNew b cb lb ab 4 2)]) w') => hR.memHdr ht)
  dsimp only [memNew] at hblk
  have hlen := hide (fun w' (hR : R ([BaseK w] ++ [MemK (memNew b cb lb ab 4 2)]) w') => memR_len hR ht)
  dsimp only [memNew] at hlen
  have hnow := hide (fun w' (hR : R ([BaseK w] ++ [MemK (memNew b cb lb ab 4 2)]) w') => mem_now hR ht)
  have hnw : descV (nowOf (memNew b cb lb ab 4 2)) = .agg #[.int .i64 1, .int .i64 4] := rfl
  rw [hnw] at hnow
  clear hnw
  dsimp only [memNew] at hnow
  replace h1 := hide h1
  clear hn
  go_wp2_with fail
  refine hl.out.mono ?_
  rintro e w' ⟨rfl, rfl⟩
  clear hl
  go_wp2_with fail
  refine (law01_awake _).mono ?_
  rintro e w' ⟨rfl, rfl⟩
  go_wp2_with fail
  refine (law02_awake _).mono ?_
  rintro e w2 ⟨rfl, hb2⟩
  have h2 := h1.out.below hb2
  clear h1 hb hb2
  go_wp2_with fail
  refine (law03_awake _).mono ?_
  rintro e w3 ⟨rfl, hb3⟩
  have h3 := h2.below hb3
  clear h2 hb3
  go_wp2_with fail
  refine (law04_awake _).mono ?_
  rintro e w4 ⟨rfl, hb4⟩
  have h4 := h3.below hb4
  clear h3 hb4
  obtain ⟨tv, wv, hb⟩ := hblk.out _ h4
  have hlen4 := hide (hlen.out _ h4)
  have hnow4 := hide (hnow.out _ h4)
  clear h4
  go_wp2_with fail
  refine hlen4.out.mono ?_
  rintro e w' ⟨rfl, rfl⟩
  go_wp2_with fail
  refine hnow4.out.mono ?_
  rintro e w5 ⟨rfl, h5⟩
  have hbel := h5.done
  clear h5
  go_wp2
  go_ret
  exact ⟨rfl, hbel⟩

end Go.Proofs.Ytcoaemjoanbemaa
