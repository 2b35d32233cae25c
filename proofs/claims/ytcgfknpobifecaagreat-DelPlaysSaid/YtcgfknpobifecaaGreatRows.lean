/-
  No cell of these rows narrows 'for every input' (looked for: loops, veiled, ifaces, maps, wideKeys, modest, calm, conditions, laid).
  DERIVED. THE GIVEN ROWS OF THIS SEAT. 3 by the template 'for every input the law returns true; each argument reads behind the call as it read before'; 0 by the template 'total and deterministic' (their statements: YtcgfknpobifecaaGreatTotals.lean).
  GIVEN WITH THE SEED: the statements are not yours to turn. If you find one false, say at which input.
  Laid BY PROGRAM, IN A SANDBOX (cutbox-rows.mjs): the forced cells as the released guide's own fill.sh prints them over the translation b17d654ec31928aa… (all of the seat's roots in one cut). By AI agents, Wed Nov 11 2026. No macro, syntax, notation, axiom, sorry.
-/
import Derived.Test.YtcgfknpobifecaaGreatChecked
import GoSem.Claim
import GoSem.ClaimJoined
import GoSem.ClaimMapViews
import Derived.JoinedTies
import Derived.KernelRfl
namespace Go.Proofs.YtcgfknpobifecaaGreat
/- THE CELL 'sum', in the pinned program and in every row, IS THE sha256 OF THE DUMP (.gsa) THAT YtcgfknpobifecaaGreatProg.lean LOADS. Nothing in Lean hashes anything: it is a label: what it is worth is what the hold of that sum in a sandbox is worth. -/
noncomputable def Tryz.pinned : Pinned := { name := "ytcgfknpobifecaagreat", sum := "b17d654ec31928aaacda0828a460342110a368b7a4e0346bcff73a37273de51a", checked := Tryz.checked }
namespace Rows
def none {H : Type} : Left H := { results := [], args := [] }

/-- 'quietuslaw11.PutPlays': WHATEVER THE INPUT: true; the input reads as it did. -/
def putPlaysSpec : ChangeSpec := { name := "putPlays", fn := fun _ => fun
  | [d1, d2, d3, d4] => { results := [.lit (.bool true)], args := [d1, d2, d3, d4] }
  | _ => none }
def putPlaysRow : OpenClaim := { program := "ytcgfknpobifecaagreat", sum := "b17d654ec31928aaacda0828a460342110a368b7a4e0346bcff73a37273de51a", func := "quietus/quietuslaw11.PutPlays", spec := "putPlays", unfollowed := true, recurses := true, apart := false }
def PutPlaysSaid : Prop := putPlaysRow.holds Tryz.pinned (OpenSpec.ofChange putPlaysSpec)

/-- ITS FALSE NEIGHBOUR: 'it returns false'. Refute it at one input. -/
def putPlaysWrong : ChangeSpec := { name := "putPlays", fn := fun _ => fun
  | [d1, d2, d3, d4] => { results := [.lit (.bool false)], args := [d1, d2, d3, d4] }
  | _ => none }
def PutPlaysWrongFalsely : Prop := putPlaysRow.holds Tryz.pinned (OpenSpec.ofChange putPlaysWrong)

/-- 'quietuslaw12.DelPlays': WHATEVER THE INPUT: true; the input reads as it did. -/
def delPlaysSpec : ChangeSpec := { name := "delPlays", fn := fun _ => fun
  | [d1, d2, d3] => { results := [.lit (.bool true)], args := [d1, d2, d3] }
  | _ => none }
def delPlaysRow : OpenClaim := { program := "ytcgfknpobifecaagreat", sum := "b17d654ec31928aaacda0828a460342110a368b7a4e0346bcff73a37273de51a", func := "quietus/quietuslaw12.DelPlays", spec := "delPlays", unfollowed := true, recurses := true, apart := false }
def DelPlaysSaid : Prop := delPlaysRow.holds Tryz.pinned (OpenSpec.ofChange delPlaysSpec)

/-- ITS FALSE NEIGHBOUR: 'it returns false'. Refute it at one input. -/
def delPlaysWrong : ChangeSpec := { name := "delPlays", fn := fun _ => fun
  | [d1, d2, d3] => { results := [.lit (.bool false)], args := [d1, d2, d3] }
  | _ => none }
def DelPlaysWrongFalsely : Prop := delPlaysRow.holds Tryz.pinned (OpenSpec.ofChange delPlaysWrong)

/-- 'quietuslaw16.CallsWords': WHATEVER THE INPUT: true; the input reads as it did. -/
def callsWordsSpec : ChangeSpec := { name := "callsWords", fn := fun _ => fun
  | [d] => { results := [.lit (.bool true)], args := [d] }
  | _ => none }
def callsWordsRow : OpenClaim := { program := "ytcgfknpobifecaagreat", sum := "b17d654ec31928aaacda0828a460342110a368b7a4e0346bcff73a37273de51a", func := "quietus/quietuslaw16.CallsWords", spec := "callsWords", unfollowed := true, recurses := true, apart := false }
def CallsWordsSaid : Prop := callsWordsRow.holds Tryz.pinned (OpenSpec.ofChange callsWordsSpec)

/-- ITS FALSE NEIGHBOUR: 'it returns false'. Refute it at one input. -/
def callsWordsWrong : ChangeSpec := { name := "callsWords", fn := fun _ => fun
  | [d] => { results := [.lit (.bool false)], args := [d] }
  | _ => none }
def CallsWordsWrongFalsely : Prop := callsWordsRow.holds Tryz.pinned (OpenSpec.ofChange callsWordsWrong)

/- THE SECOND FORM. 'bulk': how many values and letters a reading holds, each counted each time it is reached (what is shared counts as often as it is met; a slice's spare places count too). A statement '..UptoSaid' is the law's where the arguments, and the package variables that the reading takes, are together of bulk at most 1048576: NARROWER than '..Said'. Prove '..Said' where nothing that the law and all that it calls make is longer than what came in: it says more and counts as full. Else prove '..UptoSaid'. A law counts once. -/
mutual
def uptoBulk {H : Type} : DataW H → Nat
  | .lit (.string bytes) => bytes.length + 1
  | .lit _ => 1
  | .nil => 1
  | .ptr d => uptoBulk d + 1
  | .slice elems spare => uptoBulkAll elems + uptoBulkAll spare + 1
  | .agg parts => uptoBulkAll parts + 1
  | .iface _ d => uptoBulk d + 1
  | .map entries => uptoBulkEntries entries + 1
  | .held _ => 1
def uptoBulkAll {H : Type} : List (DataW H) → Nat
  | [] => 0
  | d :: r => uptoBulk d + uptoBulkAll r
def uptoBulkEntries {H : Type} : List (Lit × DataW H) → Nat
  | [] => 0
  | x :: r => uptoBulkEntry x + uptoBulkEntries r
def uptoBulkEntry {H : Type} : Lit × DataW H → Nat
  | (.string bytes, d) => bytes.length + uptoBulk d + 1
  | (_, d) => uptoBulk d + 1
 end
def uptoSmall : (H : Type) → List (DataW H) → Bool := fun _ ds => decide (uptoBulkAll ds ≤ 1048576)
def OpenSpec.upto (s : _root_.Go.ChangeSpec) : _root_.Go.OpenSpec := { _root_.Go.OpenSpec.ofChange s with cond := some uptoSmall }

/-- 'quietuslaw11.PutPlays', WHERE WHAT IT READS IS OF BULK AT MOST 1048576: true; the input reads as it did. -/
def putPlaysUptoRow : OpenClaim := { program := "ytcgfknpobifecaagreat", sum := "b17d654ec31928aaacda0828a460342110a368b7a4e0346bcff73a37273de51a", func := "quietus/quietuslaw11.PutPlays", spec := "putPlays", unfollowed := true, recurses := true, apart := false, narrowed := true }
def PutPlaysUptoSaid : Prop := putPlaysUptoRow.holds Tryz.pinned (OpenSpec.upto putPlaysSpec)

/-- 'quietuslaw12.DelPlays', WHERE WHAT IT READS IS OF BULK AT MOST 1048576: true; the input reads as it did. -/
def delPlaysUptoRow : OpenClaim := { program := "ytcgfknpobifecaagreat", sum := "b17d654ec31928aaacda0828a460342110a368b7a4e0346bcff73a37273de51a", func := "quietus/quietuslaw12.DelPlays", spec := "delPlays", unfollowed := true, recurses := true, apart := false, narrowed := true }
def DelPlaysUptoSaid : Prop := delPlaysUptoRow.holds Tryz.pinned (OpenSpec.upto delPlaysSpec)

/-- 'quietuslaw16.CallsWords', WHERE WHAT IT READS IS OF BULK AT MOST 1048576: true; the input reads as it did. -/
def callsWordsUptoRow : OpenClaim := { program := "ytcgfknpobifecaagreat", sum := "b17d654ec31928aaacda0828a460342110a368b7a4e0346bcff73a37273de51a", func := "quietus/quietuslaw16.CallsWords", spec := "callsWords", unfollowed := true, recurses := true, apart := false, narrowed := true }
def CallsWordsUptoSaid : Prop := callsWordsUptoRow.holds Tryz.pinned (OpenSpec.upto callsWordsSpec)

end Rows
end Go.Proofs.YtcgfknpobifecaaGreat
