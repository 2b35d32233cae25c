/- quietuslaw03: Awake. No condition. -/
import Derived.Test.YtcoaemjoanbemaaXb
namespace Go.Proofs.Ytcoaemjoanbemaa
open Go.RowKit

set_option maxHeartbeats 400000 in
theorem law03_awake (w : World) : Calls Try.prog 57 #[] w fun e w' => e = .returned (.bool true) ∧ Below w.heap.size w w' := by
  go_enter Try.func57, Try.ntmps57
  go_wp2_with fail
  refine (locks_new_ok (fun _ => 0) 1 1 (by decide) (by decide) _).mono ?_
  rintro e w1 ⟨o1, b, rfl, hc, he⟩
  go_wp2_with fail
  refine (locks_try hc 0 5 (by decide) (by decide) (by decide) (by decide)).mono ?_
  rintro e w2 ⟨o2, rfl, hc2, he2⟩
  go_wp2_with fail
  refine (locks_try_held hc2 0 6 (by decide) (by decide) (by decide) (by decide)).mono ?_
  rintro e w3 ⟨rfl, rfl⟩
  go_wp2_with fail
  refine (locks_free_other hc2 0 6 (by decide) (by decide) (by decide) (by decide)).mono ?_
  rintro e w3 ⟨rfl, rfl⟩
  go_wp2_with fail
  refine (locks_holder hc2 0 (by decide) (by decide)).mono ?_
  rintro e w3 ⟨rfl, rfl⟩
  go_wp2
  go_ret
  exact ⟨rfl, (he.trans he2).done (by decide)⟩

end Go.Proofs.Ytcoaemjoanbemaa
