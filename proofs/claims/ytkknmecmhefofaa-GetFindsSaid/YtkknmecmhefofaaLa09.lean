/- quietuslaw09: Awake. No condition. -/
import Derived.Test.YtkknmecmhefofaaWl
import Derived.Test.YtkknmecmhefofaaLa05
namespace Go.Proofs.Ytkknmecmhefofaa
open Go.RowKit

theorem law09_run (b cb lb ab : Nat) : finM (frReady fun _ _ => true) (frStep walkStep) 5 0 (memNew b cb lb ab 1 1, walk0 3 0 ⟨#[97]⟩) =
    (1, true, (memNew b cb lb ab 1 1, { walk0 3 0 ⟨#[97]⟩ with looking := true })) := by kernel_rfl
set_option maxRecDepth 100000 in
set_option maxHeartbeats 1600000 in
theorem law09_awake (w : World) : Calls Try.prog 53 #[] w fun e w' => e = .returned (.bool true) ∧ Below w.heap.size w w' := by
  have hn := hide (law05_made (R.start w) 1 1 (by decide) (by decide) (by decide) (by decide))
  go_enter Try.func53, Try.ntmps53
  go_wp2_with fail
  refine hn.out.mono ?_
  rintro e w1 ⟨b, cb, lb, ab, rfl, h1⟩
  clear hn
  have hnw := hide (walk_new h1 3 0 ⟨#[97]⟩)
  clear h1
  go_wp2_with fail
  refine hnw.out.mono ?_
  rintro e w2 ⟨b2, rfl, h2⟩
  have hfin := hide (fin_R walkK h2 (t := 1) (u := 2) rfl rfl (by decide) (WalkOk.start 3 0 ⟨#[97]⟩) 5 (by decide) (law09_run b cb lb ab))
  clear hnw h2
  go_wp2_with fail
  refine hfin.out.mono ?_
  rintro e w3 ⟨rfl, h3⟩
  clear hfin
  have hf : Hid (Calls _ _ _ _ (Does _ (.tuple #[.int .u64 0, ndV nd0, .bool false]))) := hide (walk_found h3 (u := 2) rfl)
  clear h3
  go_wp2_with fail
  refine hf.out.mono ?_
  rintro e w4 ⟨rfl, h4⟩
  clear hf
  dsimp only [ndV, nd0]
  have h5 := (h4.new #[.string ⟨#[]⟩, .string ⟨#[]⟩, .int .u32 0, .int .u64 0] 36)
  replace h5 := hide h5
  clear h4
  go_wp2_with fail
  refine (law05_awake _).mono ?_
  rintro e w5 ⟨rfl, hb5⟩
  have h6 := h5.out.below hb5
  have hfi : Hid (Calls _ _ _ _ (fun e w' => e = .returned (.int .u64 0) ∧ w5 = w')) := hide (walk_first h6 (u := 2) rfl)
  have hbel := h6.done
  clear h5 h6 hb5
  go_wp2_with fail
  refine hfi.out.mono ?_
  rintro e w6 ⟨rfl, rfl⟩
  go_wp2
  go_ret
  exact ⟨rfl, hbel⟩
end Go.Proofs.Ytkknmecmhefofaa
