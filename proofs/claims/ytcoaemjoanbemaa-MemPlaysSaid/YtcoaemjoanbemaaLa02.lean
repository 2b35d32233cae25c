/- What the statements of the package quietuslaw02 come to. No condition. -/
import Derived.Test.YtcoaemjoanbemaaXb
namespace Go.Proofs.Ytcoaemjoanbemaa
open Go.RowKit

set_option maxHeartbeats 400000 in
theorem law02_awake (w : World) : Calls Try.prog 56 #[] w fun e w' => e = .returned (.bool true) ∧ Below w.heap.size w w' := by
  go_enter Try.func56, Try.ntmps56
  go_wp2_with fail
  refine (cells_new_ok (fun _ => 0) 1 1 (by decide) (by decide) _).mono ?_
  rintro e w1 ⟨o1, b, rfl, hc, he⟩
  go_wp2_with fail
  refine (cells_add hc 0 3 (by decide) (by decide)).mono ?_
  rintro e w2 ⟨o2, rfl, hc2, he2⟩
  go_wp2_with fail
  refine (cells_swap hc2 0 3 9 (by decide) (by decide) (by decide)).mono ?_
  rintro e w3 ⟨o3, rfl, hc3, he3⟩
  go_wp2_with fail
  refine (cells_load hc3 0 (by decide) (by decide)).mono ?_
  rintro e w4 ⟨rfl, rfl⟩
  go_wp2
  go_ret
  exact ⟨rfl, ((he.none.trans he2).trans he3).done (by decide)⟩

end Go.Proofs.Ytcoaemjoanbemaa
