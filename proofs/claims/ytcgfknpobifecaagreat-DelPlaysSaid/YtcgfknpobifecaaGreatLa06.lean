/- quietuslaw06: QsbrSteps. No condition. -/
import Derived.Test.YtcgfknpobifecaaGreatLa02m
import Derived.Test.YtcgfknpobifecaaGreatRkm
import Derived.Deep.DeepCutAuto
import Derived.Deep.CutBlock
namespace Go.Proofs.YtcgfknpobifecaaGreat
open Go.RowKit

section
variable {l : List KObj} {w : World} {t u b : Nat} {m : MemS} {s : WaitS}
end

theorem getD_set0 (xs : List Int) (i : Nat) (v : Int) (h : i < xs.length) : (xs.set i v).getD i 0 = v := by simp [h]
end Go.Proofs.YtcgfknpobifecaaGreat
