/-
  No cell of these rows narrows 'for every input' (looked for: loops, veiled, ifaces, maps, wideKeys, modest, calm, conditions, laid).
  DERIVED. THE GIVEN ROWS OF THIS SEAT. 4 by the template 'for every input the law returns true; each argument reads behind the call as it read before'; 0 by the template 'total and deterministic' (their statements: YtcoaemjoanbemaaTotals.lean).
  GIVEN WITH THE SEED: the statements are not yours to turn. If you find one false, say at which input.
  Laid BY PROGRAM, IN A SANDBOX (cutbox-rows.mjs): the forced cells as the released guide's own fill.sh prints them over the translation 462400705a2bfcf3… (all of the seat's roots in one cut). By AI agents, Wed Nov 11 2026. No macro, syntax, notation, axiom, sorry.
-/
import Derived.Test.YtcoaemjoanbemaaChecked
import GoSem.Claim
import GoSem.ClaimJoined
import GoSem.ClaimMapViews
import Derived.JoinedTies
import Derived.KernelRfl
namespace Go.Proofs.Ytcoaemjoanbemaa
/- THE CELL 'sum', in the pinned program and in every row, IS THE sha256 OF THE DUMP (.gsa) THAT YtcoaemjoanbemaaProg.lean LOADS. Nothing in Lean hashes anything: it is a label: what it is worth is what the hold of that sum in a sandbox is worth. -/
noncomputable def Try.pinned : Pinned := { name := "ytcoaemjoanbemaa", sum := "462400705a2bfcf321d781f6bf7e6f7523ec73256010a5a52496059d6fc12c94", checked := Try.checked }
namespace Rows
def none {H : Type} : Left H := { results := [], args := [] }

/-- 'quietuslaw04.ArenaStale': WHATEVER THE INPUT: true; the input reads as it did. -/
def arenaStaleSpec : ChangeSpec := { name := "arenaStale", fn := fun _ => fun
  | [d1, d2] => { results := [.lit (.bool true)], args := [d1, d2] }
  | _ => none }
def arenaStaleRow : OpenClaim := { program := "ytcoaemjoanbemaa", sum := "462400705a2bfcf321d781f6bf7e6f7523ec73256010a5a52496059d6fc12c94", func := "quietus/quietuslaw04.ArenaStale", spec := "arenaStale", unfollowed := true, recurses := true, apart := false }
def ArenaStaleSaid : Prop := arenaStaleRow.holds Try.pinned (OpenSpec.ofChange arenaStaleSpec)

/-- ITS FALSE NEIGHBOUR: 'it returns false'. Refute it at one input. -/
def arenaStaleWrong : ChangeSpec := { name := "arenaStale", fn := fun _ => fun
  | [d1, d2] => { results := [.lit (.bool false)], args := [d1, d2] }
  | _ => none }
def ArenaStaleWrongFalsely : Prop := arenaStaleRow.holds Try.pinned (OpenSpec.ofChange arenaStaleWrong)

/-- 'quietuslaw05.MemPlays': WHATEVER THE INPUT: true; the input reads as it did. -/
def memPlaysSpec : ChangeSpec := { name := "memPlays", fn := fun _ => fun
  | [d1, d2] => { results := [.lit (.bool true)], args := [d1, d2] }
  | _ => none }
def memPlaysRow : OpenClaim := { program := "ytcoaemjoanbemaa", sum := "462400705a2bfcf321d781f6bf7e6f7523ec73256010a5a52496059d6fc12c94", func := "quietus/quietuslaw05.MemPlays", spec := "memPlays", unfollowed := true, recurses := true, apart := false }
def MemPlaysSaid : Prop := memPlaysRow.holds Try.pinned (OpenSpec.ofChange memPlaysSpec)

/-- ITS FALSE NEIGHBOUR: 'it returns false'. Refute it at one input. -/
def memPlaysWrong : ChangeSpec := { name := "memPlays", fn := fun _ => fun
  | [d1, d2] => { results := [.lit (.bool false)], args := [d1, d2] }
  | _ => none }
def MemPlaysWrongFalsely : Prop := memPlaysRow.holds Try.pinned (OpenSpec.ofChange memPlaysWrong)

/-- 'quietuslaw06.QsbrWaits': WHATEVER THE INPUT: true; the input reads as it did. -/
def qsbrWaitsSpec : ChangeSpec := { name := "qsbrWaits", fn := fun _ => fun
  | [d1, d2] => { results := [.lit (.bool true)], args := [d1, d2] }
  | _ => none }
def qsbrWaitsRow : OpenClaim := { program := "ytcoaemjoanbemaa", sum := "462400705a2bfcf321d781f6bf7e6f7523ec73256010a5a52496059d6fc12c94", func := "quietus/quietuslaw06.QsbrWaits", spec := "qsbrWaits", unfollowed := true, recurses := true, apart := false }
def QsbrWaitsSaid : Prop := qsbrWaitsRow.holds Try.pinned (OpenSpec.ofChange qsbrWaitsSpec)

/-- ITS FALSE NEIGHBOUR: 'it returns false'. Refute it at one input. -/
def qsbrWaitsWrong : ChangeSpec := { name := "qsbrWaits", fn := fun _ => fun
  | [d1, d2] => { results := [.lit (.bool false)], args := [d1, d2] }
  | _ => none }
def QsbrWaitsWrongFalsely : Prop := qsbrWaitsRow.holds Try.pinned (OpenSpec.ofChange qsbrWaitsWrong)

/-- 'quietuslaw07.RetireWaits': WHATEVER THE INPUT: true; the input reads as it did. -/
def retireWaitsSpec : ChangeSpec := { name := "retireWaits", fn := fun _ => fun
  | [d1, d2] => { results := [.lit (.bool true)], args := [d1, d2] }
  | _ => none }
def retireWaitsRow : OpenClaim := { program := "ytcoaemjoanbemaa", sum := "462400705a2bfcf321d781f6bf7e6f7523ec73256010a5a52496059d6fc12c94", func := "quietus/quietuslaw07.RetireWaits", spec := "retireWaits", unfollowed := true, recurses := true, apart := false }
def RetireWaitsSaid : Prop := retireWaitsRow.holds Try.pinned (OpenSpec.ofChange retireWaitsSpec)

/-- ITS FALSE NEIGHBOUR: 'it returns false'. Refute it at one input. -/
def retireWaitsWrong : ChangeSpec := { name := "retireWaits", fn := fun _ => fun
  | [d1, d2] => { results := [.lit (.bool false)], args := [d1, d2] }
  | _ => none }
def RetireWaitsWrongFalsely : Prop := retireWaitsRow.holds Try.pinned (OpenSpec.ofChange retireWaitsWrong)

/- THE SECOND FORM. 'bulk': how many values and letters a reading holds, each counted each time it is reached (what is shared counts as often as it is met; a slice's spare places count too). A statement '..UptoSaid' is the law's where the arguments, and the package variables that the reading takes, are together of bulk at most 1048576: NARROWER than '..Said'. Prove '..Said' where nothing that the law and all that it calls make is longer than what came in: it says more and counts as full. Else prove '..UptoSaid'. A law counts once. -/
mutual
def uptoBulk {H : Type} : DataW H → Nat
  | .lit (.string bytes) => bytes.length + 1
  | .lit _ => 1
  | .nil => 1
  | .ptr d => uptoBulk d + 1
  | .slice elems spare => uptoBulkAll elems + uptoBulkAll spare + 1
  | .agg parts => uptoBulkAll parts + 1
  | .iface _ d => uptoBulk d + 1
  | .map entries => uptoBulkEntries entries + 1
  | .held _ => 1
def uptoBulkAll {H : Type} : List (DataW H) → Nat
  | [] => 0
  | d :: r => uptoBulk d + uptoBulkAll r
def uptoBulkEntries {H : Type} : List (Lit × DataW H) → Nat
  | [] => 0
  | x :: r => uptoBulkEntry x + uptoBulkEntries r
def uptoBulkEntry {H : Type} : Lit × DataW H → Nat
  | (.string bytes, d) => bytes.length + uptoBulk d + 1
  | (_, d) => uptoBulk d + 1
 end
def uptoSmall : (H : Type) → List (DataW H) → Bool := fun _ ds => decide (uptoBulkAll ds ≤ 1048576)
def OpenSpec.upto (s : _root_.Go.ChangeSpec) : _root_.Go.OpenSpec := { _root_.Go.OpenSpec.ofChange s with cond := some uptoSmall }

/-- 'quietuslaw04.ArenaStale', WHERE WHAT IT READS IS OF BULK AT MOST 1048576: true; the input reads as it did. -/
def arenaStaleUptoRow : OpenClaim := { program := "ytcoaemjoanbemaa", sum := "462400705a2bfcf321d781f6bf7e6f7523ec73256010a5a52496059d6fc12c94", func := "quietus/quietuslaw04.ArenaStale", spec := "arenaStale", unfollowed := true, recurses := true, apart := false, narrowed := true }
def ArenaStaleUptoSaid : Prop := arenaStaleUptoRow.holds Try.pinned (OpenSpec.upto arenaStaleSpec)

/-- 'quietuslaw05.MemPlays', WHERE WHAT IT READS IS OF BULK AT MOST 1048576: true; the input reads as it did. -/
def memPlaysUptoRow : OpenClaim := { program := "ytcoaemjoanbemaa", sum := "462400705a2bfcf321d781f6bf7e6f7523ec73256010a5a52496059d6fc12c94", func := "quietus/quietuslaw05.MemPlays", spec := "memPlays", unfollowed := true, recurses := true, apart := false, narrowed := true }
def MemPlaysUptoSaid : Prop := memPlaysUptoRow.holds Try.pinned (OpenSpec.upto memPlaysSpec)

/-- 'quietuslaw06.QsbrWaits', WHERE WHAT IT READS IS OF BULK AT MOST 1048576: true; the input reads as it did. -/
def qsbrWaitsUptoRow : OpenClaim := { program := "ytcoaemjoanbemaa", sum := "462400705a2bfcf321d781f6bf7e6f7523ec73256010a5a52496059d6fc12c94", func := "quietus/quietuslaw06.QsbrWaits", spec := "qsbrWaits", unfollowed := true, recurses := true, apart := false, narrowed := true }
def QsbrWaitsUptoSaid : Prop := qsbrWaitsUptoRow.holds Try.pinned (OpenSpec.upto qsbrWaitsSpec)

/-- 'quietuslaw07.RetireWaits', WHERE WHAT IT READS IS OF BULK AT MOST 1048576: true; the input reads as it did. -/
def retireWaitsUptoRow : OpenClaim := { program := "ytcoaemjoanbemaa", sum := "462400705a2bfcf321d781f6bf7e6f7523ec73256010a5a52496059d6fc12c94", func := "quietus/quietuslaw07.RetireWaits", spec := "retireWaits", unfollowed := true, recurses := true, apart := false, narrowed := true }
def RetireWaitsUptoSaid : Prop := retireWaitsUptoRow.holds Try.pinned (OpenSpec.upto retireWaitsSpec)

end Rows
end Go.Proofs.Ytcoaemjoanbemaa
