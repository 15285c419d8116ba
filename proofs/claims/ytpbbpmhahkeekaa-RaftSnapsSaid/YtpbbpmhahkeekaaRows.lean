/-
  No cell of these rows narrows 'for every input' (looked for: loops, veiled, ifaces, maps, wideKeys, modest, calm, conditions, laid).
  DERIVED. THE GIVEN ROWS OF THIS SEAT. 9 by the template 'for every input the law returns true; each argument reads behind the call as it read before'; 0 by the template 'total and deterministic' (their statements: YtpbbpmhahkeekaaTotals.lean).
  GIVEN WITH THE SEED: the statements are not yours to turn. If you find one false, say at which input.
  Laid BY PROGRAM, IN A SANDBOX (cutbox-rows.mjs): the forced cells as the released guide's own fill.sh prints them over the translation b8e9b725f0b0885e… (all of the seat's roots in one cut). By AI agents, Wed Nov 11 2026. No macro, syntax, notation, axiom, sorry.
-/
import Derived.Test.YtpbbpmhahkeekaaChecked
import GoSem.Claim
import GoSem.ClaimJoined
import GoSem.ClaimMapViews
import Derived.JoinedTies
import Derived.KernelRfl
namespace Go.Proofs.Ytpbbpmhahkeekaa
/- THE CELL 'sum', in the pinned program and in every row, IS THE sha256 OF THE DUMP (.gsa) THAT YtpbbpmhahkeekaaProg.lean LOADS. Nothing in Lean hashes anything: it is a label: what it is worth is what the hold of that sum in a sandbox is worth. -/
noncomputable def Try.pinned : Pinned := { name := "ytpbbpmhahkeekaa", sum := "b8e9b725f0b0885e98458d23a877aa892aaa3a8c1dd0495668e0ce5382a8fb06", checked := Try.checked }
namespace Rows
def none {H : Type} : Left H := { results := [], args := [] }

/-- 'horologelaw14.RaftAlone': WHATEVER THE INPUT: true; the input reads as it did. -/
def raftAloneSpec : ChangeSpec := { name := "raftAlone", fn := fun _ => fun
  | [d1, d2] => { results := [.lit (.bool true)], args := [d1, d2] }
  | _ => none }
def raftAloneRow : OpenClaim := { program := "ytpbbpmhahkeekaa", sum := "b8e9b725f0b0885e98458d23a877aa892aaa3a8c1dd0495668e0ce5382a8fb06", func := "horologe/horologelaw14.RaftAlone", spec := "raftAlone", unfollowed := true, recurses := true, apart := false }
def RaftAloneSaid : Prop := raftAloneRow.holds Try.pinned (OpenSpec.ofChange raftAloneSpec)

/-- ITS FALSE NEIGHBOUR: 'it returns false'. Refute it at one input. -/
def raftAloneWrong : ChangeSpec := { name := "raftAlone", fn := fun _ => fun
  | [d1, d2] => { results := [.lit (.bool false)], args := [d1, d2] }
  | _ => none }
def RaftAloneWrongFalsely : Prop := raftAloneRow.holds Try.pinned (OpenSpec.ofChange raftAloneWrong)

/-- 'horologelaw14.RaftVotes': WHATEVER THE INPUT: true; the input reads as it did. -/
def raftVotesSpec : ChangeSpec := { name := "raftVotes", fn := fun _ => fun
  | [d1, d2, d3] => { results := [.lit (.bool true)], args := [d1, d2, d3] }
  | _ => none }
def raftVotesRow : OpenClaim := { program := "ytpbbpmhahkeekaa", sum := "b8e9b725f0b0885e98458d23a877aa892aaa3a8c1dd0495668e0ce5382a8fb06", func := "horologe/horologelaw14.RaftVotes", spec := "raftVotes", unfollowed := true, recurses := true, apart := false }
def RaftVotesSaid : Prop := raftVotesRow.holds Try.pinned (OpenSpec.ofChange raftVotesSpec)

/-- ITS FALSE NEIGHBOUR: 'it returns false'. Refute it at one input. -/
def raftVotesWrong : ChangeSpec := { name := "raftVotes", fn := fun _ => fun
  | [d1, d2, d3] => { results := [.lit (.bool false)], args := [d1, d2, d3] }
  | _ => none }
def RaftVotesWrongFalsely : Prop := raftVotesRow.holds Try.pinned (OpenSpec.ofChange raftVotesWrong)

/-- 'horologelaw14.RaftWaits': WHATEVER THE INPUT: true; the input reads as it did. -/
def raftWaitsSpec : ChangeSpec := { name := "raftWaits", fn := fun _ => fun
  | [d1, d2] => { results := [.lit (.bool true)], args := [d1, d2] }
  | _ => none }
def raftWaitsRow : OpenClaim := { program := "ytpbbpmhahkeekaa", sum := "b8e9b725f0b0885e98458d23a877aa892aaa3a8c1dd0495668e0ce5382a8fb06", func := "horologe/horologelaw14.RaftWaits", spec := "raftWaits", unfollowed := true, recurses := true, apart := false }
def RaftWaitsSaid : Prop := raftWaitsRow.holds Try.pinned (OpenSpec.ofChange raftWaitsSpec)

/-- ITS FALSE NEIGHBOUR: 'it returns false'. Refute it at one input. -/
def raftWaitsWrong : ChangeSpec := { name := "raftWaits", fn := fun _ => fun
  | [d1, d2] => { results := [.lit (.bool false)], args := [d1, d2] }
  | _ => none }
def RaftWaitsWrongFalsely : Prop := raftWaitsRow.holds Try.pinned (OpenSpec.ofChange raftWaitsWrong)

/-- 'horologelaw14.RaftChanges': WHATEVER THE INPUT: true; the input reads as it did. -/
def raftChangesSpec : ChangeSpec := { name := "raftChanges", fn := fun _ => fun
  | [d1, d2, d3] => { results := [.lit (.bool true)], args := [d1, d2, d3] }
  | _ => none }
def raftChangesRow : OpenClaim := { program := "ytpbbpmhahkeekaa", sum := "b8e9b725f0b0885e98458d23a877aa892aaa3a8c1dd0495668e0ce5382a8fb06", func := "horologe/horologelaw14.RaftChanges", spec := "raftChanges", unfollowed := true, recurses := true, apart := false }
def RaftChangesSaid : Prop := raftChangesRow.holds Try.pinned (OpenSpec.ofChange raftChangesSpec)

/-- ITS FALSE NEIGHBOUR: 'it returns false'. Refute it at one input. -/
def raftChangesWrong : ChangeSpec := { name := "raftChanges", fn := fun _ => fun
  | [d1, d2, d3] => { results := [.lit (.bool false)], args := [d1, d2, d3] }
  | _ => none }
def RaftChangesWrongFalsely : Prop := raftChangesRow.holds Try.pinned (OpenSpec.ofChange raftChangesWrong)

/-- 'horologelaw14.RaftAgrees': WHATEVER THE INPUT: true; the input reads as it did. -/
def raftAgreesSpec : ChangeSpec := { name := "raftAgrees", fn := fun _ => fun
  | [d1, d2] => { results := [.lit (.bool true)], args := [d1, d2] }
  | _ => none }
def raftAgreesRow : OpenClaim := { program := "ytpbbpmhahkeekaa", sum := "b8e9b725f0b0885e98458d23a877aa892aaa3a8c1dd0495668e0ce5382a8fb06", func := "horologe/horologelaw14.RaftAgrees", spec := "raftAgrees", unfollowed := true, recurses := true, apart := false }
def RaftAgreesSaid : Prop := raftAgreesRow.holds Try.pinned (OpenSpec.ofChange raftAgreesSpec)

/-- ITS FALSE NEIGHBOUR: 'it returns false'. Refute it at one input. -/
def raftAgreesWrong : ChangeSpec := { name := "raftAgrees", fn := fun _ => fun
  | [d1, d2] => { results := [.lit (.bool false)], args := [d1, d2] }
  | _ => none }
def RaftAgreesWrongFalsely : Prop := raftAgreesRow.holds Try.pinned (OpenSpec.ofChange raftAgreesWrong)

/-- 'horologelaw14.RaftReads': WHATEVER THE INPUT: true; the input reads as it did. -/
def raftReadsSpec : ChangeSpec := { name := "raftReads", fn := fun _ => fun
  | [d1, d2, d3] => { results := [.lit (.bool true)], args := [d1, d2, d3] }
  | _ => none }
def raftReadsRow : OpenClaim := { program := "ytpbbpmhahkeekaa", sum := "b8e9b725f0b0885e98458d23a877aa892aaa3a8c1dd0495668e0ce5382a8fb06", func := "horologe/horologelaw14.RaftReads", spec := "raftReads", unfollowed := true, recurses := true, apart := false }
def RaftReadsSaid : Prop := raftReadsRow.holds Try.pinned (OpenSpec.ofChange raftReadsSpec)

/-- ITS FALSE NEIGHBOUR: 'it returns false'. Refute it at one input. -/
def raftReadsWrong : ChangeSpec := { name := "raftReads", fn := fun _ => fun
  | [d1, d2, d3] => { results := [.lit (.bool false)], args := [d1, d2, d3] }
  | _ => none }
def RaftReadsWrongFalsely : Prop := raftReadsRow.holds Try.pinned (OpenSpec.ofChange raftReadsWrong)

/-- 'horologelaw14.RaftSnaps': WHATEVER THE INPUT: true; the input reads as it did. -/
def raftSnapsSpec : ChangeSpec := { name := "raftSnaps", fn := fun _ => fun
  | [d1, d2, d3] => { results := [.lit (.bool true)], args := [d1, d2, d3] }
  | _ => none }
def raftSnapsRow : OpenClaim := { program := "ytpbbpmhahkeekaa", sum := "b8e9b725f0b0885e98458d23a877aa892aaa3a8c1dd0495668e0ce5382a8fb06", func := "horologe/horologelaw14.RaftSnaps", spec := "raftSnaps", unfollowed := true, recurses := true, apart := false }
def RaftSnapsSaid : Prop := raftSnapsRow.holds Try.pinned (OpenSpec.ofChange raftSnapsSpec)

/-- ITS FALSE NEIGHBOUR: 'it returns false'. Refute it at one input. -/
def raftSnapsWrong : ChangeSpec := { name := "raftSnaps", fn := fun _ => fun
  | [d1, d2, d3] => { results := [.lit (.bool false)], args := [d1, d2, d3] }
  | _ => none }
def RaftSnapsWrongFalsely : Prop := raftSnapsRow.holds Try.pinned (OpenSpec.ofChange raftSnapsWrong)

/-- 'horologelaw14.RaftLeads': WHATEVER THE INPUT: true; the input reads as it did. -/
def raftLeadsSpec : ChangeSpec := { name := "raftLeads", fn := fun _ => fun
  | [d1, d2] => { results := [.lit (.bool true)], args := [d1, d2] }
  | _ => none }
def raftLeadsRow : OpenClaim := { program := "ytpbbpmhahkeekaa", sum := "b8e9b725f0b0885e98458d23a877aa892aaa3a8c1dd0495668e0ce5382a8fb06", func := "horologe/horologelaw14.RaftLeads", spec := "raftLeads", unfollowed := true, recurses := true, apart := false }
def RaftLeadsSaid : Prop := raftLeadsRow.holds Try.pinned (OpenSpec.ofChange raftLeadsSpec)

/-- ITS FALSE NEIGHBOUR: 'it returns false'. Refute it at one input. -/
def raftLeadsWrong : ChangeSpec := { name := "raftLeads", fn := fun _ => fun
  | [d1, d2] => { results := [.lit (.bool false)], args := [d1, d2] }
  | _ => none }
def RaftLeadsWrongFalsely : Prop := raftLeadsRow.holds Try.pinned (OpenSpec.ofChange raftLeadsWrong)

/-- 'horologelaw14.RaftLogs': WHATEVER THE INPUT: true; the input reads as it did. -/
def raftLogsSpec : ChangeSpec := { name := "raftLogs", fn := fun _ => fun
  | [d1, d2] => { results := [.lit (.bool true)], args := [d1, d2] }
  | _ => none }
def raftLogsRow : OpenClaim := { program := "ytpbbpmhahkeekaa", sum := "b8e9b725f0b0885e98458d23a877aa892aaa3a8c1dd0495668e0ce5382a8fb06", func := "horologe/horologelaw14.RaftLogs", spec := "raftLogs", unfollowed := true, recurses := true, apart := false }
def RaftLogsSaid : Prop := raftLogsRow.holds Try.pinned (OpenSpec.ofChange raftLogsSpec)

/-- ITS FALSE NEIGHBOUR: 'it returns false'. Refute it at one input. -/
def raftLogsWrong : ChangeSpec := { name := "raftLogs", fn := fun _ => fun
  | [d1, d2] => { results := [.lit (.bool false)], args := [d1, d2] }
  | _ => none }
def RaftLogsWrongFalsely : Prop := raftLogsRow.holds Try.pinned (OpenSpec.ofChange raftLogsWrong)

/- THE SECOND FORM. 'bulk': how many values and letters a reading holds, each counted each time it is reached (what is shared counts as often as it is met; a slice's spare places count too). A statement '..UptoSaid' is the law's where the arguments, and the package variables that the reading takes, are together of bulk at most 1048576: NARROWER than '..Said'. Prove '..Said' where nothing that the law and all that it calls make is longer than what came in: it says more and counts as full. Else prove '..UptoSaid'. A law counts once. -/
mutual
def uptoBulk {H : Type} : DataW H → Nat
  | .lit (.string bytes) => bytes.length + 1
  | .lit _ => 1
  | .nil => 1
  | .ptr d => uptoBulk d + 1
  | .slice elems spare => uptoBulkAll elems + uptoBulkAll spare + 1
  | .agg parts => uptoBulkAll parts + 1
  | .iface _ d => uptoBulk d + 1
  | .map entries => uptoBulkEntries entries + 1
  | .held _ => 1
def uptoBulkAll {H : Type} : List (DataW H) → Nat
  | [] => 0
  | d :: r => uptoBulk d + uptoBulkAll r
def uptoBulkEntries {H : Type} : List (Lit × DataW H) → Nat
  | [] => 0
  | x :: r => uptoBulkEntry x + uptoBulkEntries r
def uptoBulkEntry {H : Type} : Lit × DataW H → Nat
  | (.string bytes, d) => bytes.length + uptoBulk d + 1
  | (_, d) => uptoBulk d + 1
 end
def uptoSmall : (H : Type) → List (DataW H) → Bool := fun _ ds => decide (uptoBulkAll ds ≤ 1048576)
def OpenSpec.upto (s : _root_.Go.ChangeSpec) : _root_.Go.OpenSpec := { _root_.Go.OpenSpec.ofChange s with cond := some uptoSmall }

/-- 'horologelaw14.RaftAlone', WHERE WHAT IT READS IS OF BULK AT MOST 1048576: true; the input reads as it did. -/
def raftAloneUptoRow : OpenClaim := { program := "ytpbbpmhahkeekaa", sum := "b8e9b725f0b0885e98458d23a877aa892aaa3a8c1dd0495668e0ce5382a8fb06", func := "horologe/horologelaw14.RaftAlone", spec := "raftAlone", unfollowed := true, recurses := true, apart := false, narrowed := true }
def RaftAloneUptoSaid : Prop := raftAloneUptoRow.holds Try.pinned (OpenSpec.upto raftAloneSpec)

/-- 'horologelaw14.RaftVotes', WHERE WHAT IT READS IS OF BULK AT MOST 1048576: true; the input reads as it did. -/
def raftVotesUptoRow : OpenClaim := { program := "ytpbbpmhahkeekaa", sum := "b8e9b725f0b0885e98458d23a877aa892aaa3a8c1dd0495668e0ce5382a8fb06", func := "horologe/horologelaw14.RaftVotes", spec := "raftVotes", unfollowed := true, recurses := true, apart := false, narrowed := true }
def RaftVotesUptoSaid : Prop := raftVotesUptoRow.holds Try.pinned (OpenSpec.upto raftVotesSpec)

/-- 'horologelaw14.RaftWaits', WHERE WHAT IT READS IS OF BULK AT MOST 1048576: true; the input reads as it did. -/
def raftWaitsUptoRow : OpenClaim := { program := "ytpbbpmhahkeekaa", sum := "b8e9b725f0b0885e98458d23a877aa892aaa3a8c1dd0495668e0ce5382a8fb06", func := "horologe/horologelaw14.RaftWaits", spec := "raftWaits", unfollowed := true, recurses := true, apart := false, narrowed := true }
def RaftWaitsUptoSaid : Prop := raftWaitsUptoRow.holds Try.pinned (OpenSpec.upto raftWaitsSpec)

/-- 'horologelaw14.RaftChanges', WHERE WHAT IT READS IS OF BULK AT MOST 1048576: true; the input reads as it did. -/
def raftChangesUptoRow : OpenClaim := { program := "ytpbbpmhahkeekaa", sum := "b8e9b725f0b0885e98458d23a877aa892aaa3a8c1dd0495668e0ce5382a8fb06", func := "horologe/horologelaw14.RaftChanges", spec := "raftChanges", unfollowed := true, recurses := true, apart := false, narrowed := true }
def RaftChangesUptoSaid : Prop := raftChangesUptoRow.holds Try.pinned (OpenSpec.upto raftChangesSpec)

/-- 'horologelaw14.RaftAgrees', WHERE WHAT IT READS IS OF BULK AT MOST 1048576: true; the input reads as it did. -/
def raftAgreesUptoRow : OpenClaim := { program := "ytpbbpmhahkeekaa", sum := "b8e9b725f0b0885e98458d23a877aa892aaa3a8c1dd0495668e0ce5382a8fb06", func := "horologe/horologelaw14.RaftAgrees", spec := "raftAgrees", unfollowed := true, recurses := true, apart := false, narrowed := true }
def RaftAgreesUptoSaid : Prop := raftAgreesUptoRow.holds Try.pinned (OpenSpec.upto raftAgreesSpec)

/-- 'horologelaw14.RaftReads', WHERE WHAT IT READS IS OF BULK AT MOST 1048576: true; the input reads as it did. -/
def raftReadsUptoRow : OpenClaim := { program := "ytpbbpmhahkeekaa", sum := "b8e9b725f0b0885e98458d23a877aa892aaa3a8c1dd0495668e0ce5382a8fb06", func := "horologe/horologelaw14.RaftReads", spec := "raftReads", unfollowed := true, recurses := true, apart := false, narrowed := true }
def RaftReadsUptoSaid : Prop := raftReadsUptoRow.holds Try.pinned (OpenSpec.upto raftReadsSpec)

/-- 'horologelaw14.RaftSnaps', WHERE WHAT IT READS IS OF BULK AT MOST 1048576: true; the input reads as it did. -/
def raftSnapsUptoRow : OpenClaim := { program := "ytpbbpmhahkeekaa", sum := "b8e9b725f0b0885e98458d23a877aa892aaa3a8c1dd0495668e0ce5382a8fb06", func := "horologe/horologelaw14.RaftSnaps", spec := "raftSnaps", unfollowed := true, recurses := true, apart := false, narrowed := true }
def RaftSnapsUptoSaid : Prop := raftSnapsUptoRow.holds Try.pinned (OpenSpec.upto raftSnapsSpec)

/-- 'horologelaw14.RaftLeads', WHERE WHAT IT READS IS OF BULK AT MOST 1048576: true; the input reads as it did. -/
def raftLeadsUptoRow : OpenClaim := { program := "ytpbbpmhahkeekaa", sum := "b8e9b725f0b0885e98458d23a877aa892aaa3a8c1dd0495668e0ce5382a8fb06", func := "horologe/horologelaw14.RaftLeads", spec := "raftLeads", unfollowed := true, recurses := true, apart := false, narrowed := true }
def RaftLeadsUptoSaid : Prop := raftLeadsUptoRow.holds Try.pinned (OpenSpec.upto raftLeadsSpec)

/-- 'horologelaw14.RaftLogs', WHERE WHAT IT READS IS OF BULK AT MOST 1048576: true; the input reads as it did. -/
def raftLogsUptoRow : OpenClaim := { program := "ytpbbpmhahkeekaa", sum := "b8e9b725f0b0885e98458d23a877aa892aaa3a8c1dd0495668e0ce5382a8fb06", func := "horologe/horologelaw14.RaftLogs", spec := "raftLogs", unfollowed := true, recurses := true, apart := false, narrowed := true }
def RaftLogsUptoSaid : Prop := raftLogsUptoRow.holds Try.pinned (OpenSpec.upto raftLogsSpec)

end Rows
end Go.Proofs.Ytpbbpmhahkeekaa
