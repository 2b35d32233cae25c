/-
  No cell of these rows narrows 'for every input' (looked for: loops, veiled, ifaces, maps, wideKeys, modest, calm, conditions, laid).
  DERIVED. THE GIVEN ROWS OF THIS SEAT. 11 by the template 'for every input the law returns true; each argument reads behind the call as it read before'; 0 by the template 'total and deterministic' (their statements: YthfnbklloahdkaaTotals.lean).
  GIVEN WITH THE SEED: the statements are not yours to turn. If you find one false, say at which input.
  Laid BY PROGRAM, IN A SANDBOX (cutbox-rows.mjs): the forced cells as the released guide's own fill.sh prints them over the translation 04bc7879c58fef5a… (all of the seat's roots in one cut). By AI agents, Wed Nov 11 2026. No macro, syntax, notation, axiom, sorry.
-/
import Derived.Test.YthfnbklloahdkaaChecked
import GoSem.Claim
import GoSem.ClaimJoined
import GoSem.ClaimMapViews
import Derived.JoinedTies
import Derived.KernelRfl
namespace Go.Proofs.Ythfnbklloahdkaa
/- THE CELL 'sum', in the pinned program and in every row, IS THE sha256 OF THE DUMP (.gsa) THAT YthfnbklloahdkaaProg.lean LOADS. Nothing in Lean hashes anything: it is a label: what it is worth is what the hold of that sum in a sandbox is worth. -/
noncomputable def Try.pinned : Pinned := { name := "ythfnbklloahdkaa", sum := "04bc7879c58fef5ae6a0fa1c416fbba9f50117475f01e406ceed036c05527124", checked := Try.checked }
namespace Rows
def none {H : Type} : Left H := { results := [], args := [] }

/-- 'quietuslaw02.CellsFull': WHATEVER THE INPUT: true; the input reads as it did. -/
def cellsFullSpec : ChangeSpec := { name := "cellsFull", fn := fun _ => fun
  | [d] => { results := [.lit (.bool true)], args := [d] }
  | _ => none }
def cellsFullRow : OpenClaim := { program := "ythfnbklloahdkaa", sum := "04bc7879c58fef5ae6a0fa1c416fbba9f50117475f01e406ceed036c05527124", func := "quietus/quietuslaw02.CellsFull", spec := "cellsFull", apart := false }
def CellsFullSaid : Prop := cellsFullRow.holds Try.pinned (OpenSpec.ofChange cellsFullSpec)

/-- ITS FALSE NEIGHBOUR: 'it returns false'. Refute it at one input. -/
def cellsFullWrong : ChangeSpec := { name := "cellsFull", fn := fun _ => fun
  | [d] => { results := [.lit (.bool false)], args := [d] }
  | _ => none }
def CellsFullWrongFalsely : Prop := cellsFullRow.holds Try.pinned (OpenSpec.ofChange cellsFullWrong)

/-- 'quietuslaw03.LocksPlay': WHATEVER THE INPUT: true; the input reads as it did. -/
def locksPlaySpec : ChangeSpec := { name := "locksPlay", fn := fun _ => fun
  | [d1, d2] => { results := [.lit (.bool true)], args := [d1, d2] }
  | _ => none }
def locksPlayRow : OpenClaim := { program := "ythfnbklloahdkaa", sum := "04bc7879c58fef5ae6a0fa1c416fbba9f50117475f01e406ceed036c05527124", func := "quietus/quietuslaw03.LocksPlay", spec := "locksPlay", apart := false }
def LocksPlaySaid : Prop := locksPlayRow.holds Try.pinned (OpenSpec.ofChange locksPlaySpec)

/-- ITS FALSE NEIGHBOUR: 'it returns false'. Refute it at one input. -/
def locksPlayWrong : ChangeSpec := { name := "locksPlay", fn := fun _ => fun
  | [d1, d2] => { results := [.lit (.bool false)], args := [d1, d2] }
  | _ => none }
def LocksPlayWrongFalsely : Prop := locksPlayRow.holds Try.pinned (OpenSpec.ofChange locksPlayWrong)

/-- 'quietuslaw02.CellsPlay': WHATEVER THE INPUT: true; the input reads as it did. -/
def cellsPlaySpec : ChangeSpec := { name := "cellsPlay", fn := fun _ => fun
  | [d1, d2] => { results := [.lit (.bool true)], args := [d1, d2] }
  | _ => none }
def cellsPlayRow : OpenClaim := { program := "ythfnbklloahdkaa", sum := "04bc7879c58fef5ae6a0fa1c416fbba9f50117475f01e406ceed036c05527124", func := "quietus/quietuslaw02.CellsPlay", spec := "cellsPlay", apart := false }
def CellsPlaySaid : Prop := cellsPlayRow.holds Try.pinned (OpenSpec.ofChange cellsPlaySpec)

/-- ITS FALSE NEIGHBOUR: 'it returns false'. Refute it at one input. -/
def cellsPlayWrong : ChangeSpec := { name := "cellsPlay", fn := fun _ => fun
  | [d1, d2] => { results := [.lit (.bool false)], args := [d1, d2] }
  | _ => none }
def CellsPlayWrongFalsely : Prop := cellsPlayRow.holds Try.pinned (OpenSpec.ofChange cellsPlayWrong)

/-- 'quietuslaw01.FnvTells': WHATEVER THE INPUT: true; the input reads as it did. -/
def fnvTellsSpec : ChangeSpec := { name := "fnvTells", fn := fun _ => fun
  | [d1, d2, d3] => { results := [.lit (.bool true)], args := [d1, d2, d3] }
  | _ => none }
def fnvTellsRow : OpenClaim := { program := "ythfnbklloahdkaa", sum := "04bc7879c58fef5ae6a0fa1c416fbba9f50117475f01e406ceed036c05527124", func := "quietus/quietuslaw01.FnvTells", spec := "fnvTells", apart := false }
def FnvTellsSaid : Prop := fnvTellsRow.holds Try.pinned (OpenSpec.ofChange fnvTellsSpec)

/-- ITS FALSE NEIGHBOUR: 'it returns false'. Refute it at one input. -/
def fnvTellsWrong : ChangeSpec := { name := "fnvTells", fn := fun _ => fun
  | [d1, d2, d3] => { results := [.lit (.bool false)], args := [d1, d2, d3] }
  | _ => none }
def FnvTellsWrongFalsely : Prop := fnvTellsRow.holds Try.pinned (OpenSpec.ofChange fnvTellsWrong)

/-- 'quietuslaw01.FnvSplits': WHATEVER THE INPUT: true; the input reads as it did. -/
def fnvSplitsSpec : ChangeSpec := { name := "fnvSplits", fn := fun _ => fun
  | [d1, d2] => { results := [.lit (.bool true)], args := [d1, d2] }
  | _ => none }
def fnvSplitsRow : OpenClaim := { program := "ythfnbklloahdkaa", sum := "04bc7879c58fef5ae6a0fa1c416fbba9f50117475f01e406ceed036c05527124", func := "quietus/quietuslaw01.FnvSplits", spec := "fnvSplits", apart := false }
def FnvSplitsSaid : Prop := fnvSplitsRow.holds Try.pinned (OpenSpec.ofChange fnvSplitsSpec)

/-- ITS FALSE NEIGHBOUR: 'it returns false'. Refute it at one input. -/
def fnvSplitsWrong : ChangeSpec := { name := "fnvSplits", fn := fun _ => fun
  | [d1, d2] => { results := [.lit (.bool false)], args := [d1, d2] }
  | _ => none }
def FnvSplitsWrongFalsely : Prop := fnvSplitsRow.holds Try.pinned (OpenSpec.ofChange fnvSplitsWrong)

/-- 'quietuslaw04.ArenaStale': WHATEVER THE INPUT: true; the input reads as it did. -/
def arenaStaleSpec : ChangeSpec := { name := "arenaStale", fn := fun _ => fun
  | [d1, d2] => { results := [.lit (.bool true)], args := [d1, d2] }
  | _ => none }
def arenaStaleRow : OpenClaim := { program := "ythfnbklloahdkaa", sum := "04bc7879c58fef5ae6a0fa1c416fbba9f50117475f01e406ceed036c05527124", func := "quietus/quietuslaw04.ArenaStale", spec := "arenaStale", unfollowed := true, recurses := true, apart := false }
def ArenaStaleSaid : Prop := arenaStaleRow.holds Try.pinned (OpenSpec.ofChange arenaStaleSpec)

/-- ITS FALSE NEIGHBOUR: 'it returns false'. Refute it at one input. -/
def arenaStaleWrong : ChangeSpec := { name := "arenaStale", fn := fun _ => fun
  | [d1, d2] => { results := [.lit (.bool false)], args := [d1, d2] }
  | _ => none }
def ArenaStaleWrongFalsely : Prop := arenaStaleRow.holds Try.pinned (OpenSpec.ofChange arenaStaleWrong)

/-- 'quietuslaw04.ArenaPlays': WHATEVER THE INPUT: true; the input reads as it did. -/
def arenaPlaysSpec : ChangeSpec := { name := "arenaPlays", fn := fun _ => fun
  | [d1, d2] => { results := [.lit (.bool true)], args := [d1, d2] }
  | _ => none }
def arenaPlaysRow : OpenClaim := { program := "ythfnbklloahdkaa", sum := "04bc7879c58fef5ae6a0fa1c416fbba9f50117475f01e406ceed036c05527124", func := "quietus/quietuslaw04.ArenaPlays", spec := "arenaPlays", unfollowed := true, recurses := true, apart := false }
def ArenaPlaysSaid : Prop := arenaPlaysRow.holds Try.pinned (OpenSpec.ofChange arenaPlaysSpec)

/-- ITS FALSE NEIGHBOUR: 'it returns false'. Refute it at one input. -/
def arenaPlaysWrong : ChangeSpec := { name := "arenaPlays", fn := fun _ => fun
  | [d1, d2] => { results := [.lit (.bool false)], args := [d1, d2] }
  | _ => none }
def ArenaPlaysWrongFalsely : Prop := arenaPlaysRow.holds Try.pinned (OpenSpec.ofChange arenaPlaysWrong)

/-- 'quietuslaw05.MemNames': WHATEVER THE INPUT: true; the input reads as it did. -/
def memNamesSpec : ChangeSpec := { name := "memNames", fn := fun _ => fun
  | [d1, d2, d3] => { results := [.lit (.bool true)], args := [d1, d2, d3] }
  | _ => none }
def memNamesRow : OpenClaim := { program := "ythfnbklloahdkaa", sum := "04bc7879c58fef5ae6a0fa1c416fbba9f50117475f01e406ceed036c05527124", func := "quietus/quietuslaw05.MemNames", spec := "memNames", unfollowed := true, recurses := true, apart := false }
def MemNamesSaid : Prop := memNamesRow.holds Try.pinned (OpenSpec.ofChange memNamesSpec)

/-- ITS FALSE NEIGHBOUR: 'it returns false'. Refute it at one input. -/
def memNamesWrong : ChangeSpec := { name := "memNames", fn := fun _ => fun
  | [d1, d2, d3] => { results := [.lit (.bool false)], args := [d1, d2, d3] }
  | _ => none }
def MemNamesWrongFalsely : Prop := memNamesRow.holds Try.pinned (OpenSpec.ofChange memNamesWrong)

/-- 'quietuslaw05.MemFinishes': WHATEVER THE INPUT: true; the input reads as it did. -/
def memFinishesSpec : ChangeSpec := { name := "memFinishes", fn := fun _ => fun
  | [d1, d2, d3] => { results := [.lit (.bool true)], args := [d1, d2, d3] }
  | _ => none }
def memFinishesRow : OpenClaim := { program := "ythfnbklloahdkaa", sum := "04bc7879c58fef5ae6a0fa1c416fbba9f50117475f01e406ceed036c05527124", func := "quietus/quietuslaw05.MemFinishes", spec := "memFinishes", unfollowed := true, recurses := true, apart := false }
def MemFinishesSaid : Prop := memFinishesRow.holds Try.pinned (OpenSpec.ofChange memFinishesSpec)

/-- ITS FALSE NEIGHBOUR: 'it returns false'. Refute it at one input. -/
def memFinishesWrong : ChangeSpec := { name := "memFinishes", fn := fun _ => fun
  | [d1, d2, d3] => { results := [.lit (.bool false)], args := [d1, d2, d3] }
  | _ => none }
def MemFinishesWrongFalsely : Prop := memFinishesRow.holds Try.pinned (OpenSpec.ofChange memFinishesWrong)

/-- 'quietuslaw05.MemPlays': WHATEVER THE INPUT: true; the input reads as it did. -/
def memPlaysSpec : ChangeSpec := { name := "memPlays", fn := fun _ => fun
  | [d1, d2] => { results := [.lit (.bool true)], args := [d1, d2] }
  | _ => none }
def memPlaysRow : OpenClaim := { program := "ythfnbklloahdkaa", sum := "04bc7879c58fef5ae6a0fa1c416fbba9f50117475f01e406ceed036c05527124", func := "quietus/quietuslaw05.MemPlays", spec := "memPlays", unfollowed := true, recurses := true, apart := false }
def MemPlaysSaid : Prop := memPlaysRow.holds Try.pinned (OpenSpec.ofChange memPlaysSpec)

/-- ITS FALSE NEIGHBOUR: 'it returns false'. Refute it at one input. -/
def memPlaysWrong : ChangeSpec := { name := "memPlays", fn := fun _ => fun
  | [d1, d2] => { results := [.lit (.bool false)], args := [d1, d2] }
  | _ => none }
def MemPlaysWrongFalsely : Prop := memPlaysRow.holds Try.pinned (OpenSpec.ofChange memPlaysWrong)

/-- 'quietuslaw06.QsbrSteps': WHATEVER THE INPUT: true; the input reads as it did. -/
def qsbrStepsSpec : ChangeSpec := { name := "qsbrSteps", fn := fun _ => fun
  | [d1, d2] => { results := [.lit (.bool true)], args := [d1, d2] }
  | _ => none }
def qsbrStepsRow : OpenClaim := { program := "ythfnbklloahdkaa", sum := "04bc7879c58fef5ae6a0fa1c416fbba9f50117475f01e406ceed036c05527124", func := "quietus/quietuslaw06.QsbrSteps", spec := "qsbrSteps", unfollowed := true, recurses := true, apart := false }
def QsbrStepsSaid : Prop := qsbrStepsRow.holds Try.pinned (OpenSpec.ofChange qsbrStepsSpec)

/-- ITS FALSE NEIGHBOUR: 'it returns false'. Refute it at one input. -/
def qsbrStepsWrong : ChangeSpec := { name := "qsbrSteps", fn := fun _ => fun
  | [d1, d2] => { results := [.lit (.bool false)], args := [d1, d2] }
  | _ => none }
def QsbrStepsWrongFalsely : Prop := qsbrStepsRow.holds Try.pinned (OpenSpec.ofChange qsbrStepsWrong)

/- THE SECOND FORM. 'bulk': how many values and letters a reading holds, each counted each time it is reached (what is shared counts as often as it is met; a slice's spare places count too). A statement '..UptoSaid' is the law's where the arguments, and the package variables that the reading takes, are together of bulk at most 1048576: NARROWER than '..Said'. Prove '..Said' where nothing that the law and all that it calls make is longer than what came in: it says more and counts as full. Else prove '..UptoSaid'. A law counts once. -/
mutual
def uptoBulk {H : Type} : DataW H → Nat
  | .lit (.string bytes) => bytes.length + 1
  | .lit _ => 1
  | .nil => 1
  | .ptr d => uptoBulk d + 1
  | .slice elems spare => uptoBulkAll elems + uptoBulkAll spare + 1
  | .agg parts => uptoBulkAll parts + 1
  | .iface _ d => uptoBulk d + 1
  | .map entries => uptoBulkEntries entries + 1
  | .held _ => 1
def uptoBulkAll {H : Type} : List (DataW H) → Nat
  | [] => 0
  | d :: r => uptoBulk d + uptoBulkAll r
def uptoBulkEntries {H : Type} : List (Lit × DataW H) → Nat
  | [] => 0
  | x :: r => uptoBulkEntry x + uptoBulkEntries r
def uptoBulkEntry {H : Type} : Lit × DataW H → Nat
  | (.string bytes, d) => bytes.length + uptoBulk d + 1
  | (_, d) => uptoBulk d + 1
 end
def uptoSmall : (H : Type) → List (DataW H) → Bool := fun _ ds => decide (uptoBulkAll ds ≤ 1048576)
def OpenSpec.upto (s : _root_.Go.ChangeSpec) : _root_.Go.OpenSpec := { _root_.Go.OpenSpec.ofChange s with cond := some uptoSmall }

/-- 'quietuslaw02.CellsFull', WHERE WHAT IT READS IS OF BULK AT MOST 1048576: true; the input reads as it did. -/
def cellsFullUptoRow : OpenClaim := { program := "ythfnbklloahdkaa", sum := "04bc7879c58fef5ae6a0fa1c416fbba9f50117475f01e406ceed036c05527124", func := "quietus/quietuslaw02.CellsFull", spec := "cellsFull", apart := false, narrowed := true }
def CellsFullUptoSaid : Prop := cellsFullUptoRow.holds Try.pinned (OpenSpec.upto cellsFullSpec)

/-- 'quietuslaw03.LocksPlay', WHERE WHAT IT READS IS OF BULK AT MOST 1048576: true; the input reads as it did. -/
def locksPlayUptoRow : OpenClaim := { program := "ythfnbklloahdkaa", sum := "04bc7879c58fef5ae6a0fa1c416fbba9f50117475f01e406ceed036c05527124", func := "quietus/quietuslaw03.LocksPlay", spec := "locksPlay", apart := false, narrowed := true }
def LocksPlayUptoSaid : Prop := locksPlayUptoRow.holds Try.pinned (OpenSpec.upto locksPlaySpec)

/-- 'quietuslaw02.CellsPlay', WHERE WHAT IT READS IS OF BULK AT MOST 1048576: true; the input reads as it did. -/
def cellsPlayUptoRow : OpenClaim := { program := "ythfnbklloahdkaa", sum := "04bc7879c58fef5ae6a0fa1c416fbba9f50117475f01e406ceed036c05527124", func := "quietus/quietuslaw02.CellsPlay", spec := "cellsPlay", apart := false, narrowed := true }
def CellsPlayUptoSaid : Prop := cellsPlayUptoRow.holds Try.pinned (OpenSpec.upto cellsPlaySpec)

/-- 'quietuslaw01.FnvTells', WHERE WHAT IT READS IS OF BULK AT MOST 1048576: true; the input reads as it did. -/
def fnvTellsUptoRow : OpenClaim := { program := "ythfnbklloahdkaa", sum := "04bc7879c58fef5ae6a0fa1c416fbba9f50117475f01e406ceed036c05527124", func := "quietus/quietuslaw01.FnvTells", spec := "fnvTells", apart := false, narrowed := true }
def FnvTellsUptoSaid : Prop := fnvTellsUptoRow.holds Try.pinned (OpenSpec.upto fnvTellsSpec)

/-- 'quietuslaw01.FnvSplits', WHERE WHAT IT READS IS OF BULK AT MOST 1048576: true; the input reads as it did. -/
def fnvSplitsUptoRow : OpenClaim := { program := "ythfnbklloahdkaa", sum := "04bc7879c58fef5ae6a0fa1c416fbba9f50117475f01e406ceed036c05527124", func := "quietus/quietuslaw01.FnvSplits", spec := "fnvSplits", apart := false, narrowed := true }
def FnvSplitsUptoSaid : Prop := fnvSplitsUptoRow.holds Try.pinned (OpenSpec.upto fnvSplitsSpec)

/-- 'quietuslaw04.ArenaStale', WHERE WHAT IT READS IS OF BULK AT MOST 1048576: true; the input reads as it did. -/
def arenaStaleUptoRow : OpenClaim := { program := "ythfnbklloahdkaa", sum := "04bc7879c58fef5ae6a0fa1c416fbba9f50117475f01e406ceed036c05527124", func := "quietus/quietuslaw04.ArenaStale", spec := "arenaStale", unfollowed := true, recurses := true, apart := false, narrowed := true }
def ArenaStaleUptoSaid : Prop := arenaStaleUptoRow.holds Try.pinned (OpenSpec.upto arenaStaleSpec)

/-- 'quietuslaw04.ArenaPlays', WHERE WHAT IT READS IS OF BULK AT MOST 1048576: true; the input reads as it did. -/
def arenaPlaysUptoRow : OpenClaim := { program := "ythfnbklloahdkaa", sum := "04bc7879c58fef5ae6a0fa1c416fbba9f50117475f01e406ceed036c05527124", func := "quietus/quietuslaw04.ArenaPlays", spec := "arenaPlays", unfollowed := true, recurses := true, apart := false, narrowed := true }
def ArenaPlaysUptoSaid : Prop := arenaPlaysUptoRow.holds Try.pinned (OpenSpec.upto arenaPlaysSpec)

/-- 'quietuslaw05.MemNames', WHERE WHAT IT READS IS OF BULK AT MOST 1048576: true; the input reads as it did. -/
def memNamesUptoRow : OpenClaim := { program := "ythfnbklloahdkaa", sum := "04bc7879c58fef5ae6a0fa1c416fbba9f50117475f01e406ceed036c05527124", func := "quietus/quietuslaw05.MemNames", spec := "memNames", unfollowed := true, recurses := true, apart := false, narrowed := true }
def MemNamesUptoSaid : Prop := memNamesUptoRow.holds Try.pinned (OpenSpec.upto memNamesSpec)

/-- 'quietuslaw05.MemFinishes', WHERE WHAT IT READS IS OF BULK AT MOST 1048576: true; the input reads as it did. -/
def memFinishesUptoRow : OpenClaim := { program := "ythfnbklloahdkaa", sum := "04bc7879c58fef5ae6a0fa1c416fbba9f50117475f01e406ceed036c05527124", func := "quietus/quietuslaw05.MemFinishes", spec := "memFinishes", unfollowed := true, recurses := true, apart := false, narrowed := true }
def MemFinishesUptoSaid : Prop := memFinishesUptoRow.holds Try.pinned (OpenSpec.upto memFinishesSpec)

/-- 'quietuslaw05.MemPlays', WHERE WHAT IT READS IS OF BULK AT MOST 1048576: true; the input reads as it did. -/
def memPlaysUptoRow : OpenClaim := { program := "ythfnbklloahdkaa", sum := "04bc7879c58fef5ae6a0fa1c416fbba9f50117475f01e406ceed036c05527124", func := "quietus/quietuslaw05.MemPlays", spec := "memPlays", unfollowed := true, recurses := true, apart := false, narrowed := true }
def MemPlaysUptoSaid : Prop := memPlaysUptoRow.holds Try.pinned (OpenSpec.upto memPlaysSpec)

/-- 'quietuslaw06.QsbrSteps', WHERE WHAT IT READS IS OF BULK AT MOST 1048576: true; the input reads as it did. -/
def qsbrStepsUptoRow : OpenClaim := { program := "ythfnbklloahdkaa", sum := "04bc7879c58fef5ae6a0fa1c416fbba9f50117475f01e406ceed036c05527124", func := "quietus/quietuslaw06.QsbrSteps", spec := "qsbrSteps", unfollowed := true, recurses := true, apart := false, narrowed := true }
def QsbrStepsUptoSaid : Prop := qsbrStepsUptoRow.holds Try.pinned (OpenSpec.upto qsbrStepsSpec)

end Rows
end Go.Proofs.Ythfnbklloahdkaa
