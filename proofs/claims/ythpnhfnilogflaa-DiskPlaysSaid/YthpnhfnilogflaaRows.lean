/-
  No cell of these rows narrows 'for every input' (looked for: loops, veiled, ifaces, maps, wideKeys, modest, calm, conditions, laid).
  DERIVED. THE GIVEN ROWS OF THIS SEAT. 7 by the template 'for every input the law returns true; each argument reads behind the call as it read before'; 0 by the template 'total and deterministic' (their statements: YthpnhfnilogflaaTotals.lean).
  GIVEN WITH THE SEED: the statements are not yours to turn. If you find one false, say at which input.
  Laid BY PROGRAM, IN A SANDBOX (cutbox-rows.mjs): the forced cells as the released guide's own fill.sh prints them over the translation 9b68a0e37ba155b5… (all of the seat's roots in one cut). By AI agents, Wed Nov 11 2026. No macro, syntax, notation, axiom, sorry.
-/
import Derived.Test.YthpnhfnilogflaaChecked
import GoSem.Claim
import GoSem.ClaimJoined
import GoSem.ClaimMapViews
import Derived.JoinedTies
import Derived.KernelRfl
namespace Go.Proofs.Ythpnhfnilogflaa
/- THE CELL 'sum', in the pinned program and in every row, IS THE sha256 OF THE DUMP (.gsa) THAT YthpnhfnilogflaaProg.lean LOADS. Nothing in Lean hashes anything: it is a label: what it is worth is what the hold of that sum in a sandbox is worth. -/
noncomputable def Try.pinned : Pinned := { name := "ythpnhfnilogflaa", sum := "9b68a0e37ba155b5972f57bcacf0712f0738fcfc5a8f8942fe1d9399bda51f41", checked := Try.checked }
namespace Rows
def none {H : Type} : Left H := { results := [], args := [] }

/-- 'horologelaw2.DiskOwn': WHATEVER THE INPUT: true; the input reads as it did. -/
def diskOwnSpec : ChangeSpec := { name := "diskOwn", fn := fun _ => fun
  | [d1, d2] => { results := [.lit (.bool true)], args := [d1, d2] }
  | _ => none }
def diskOwnRow : OpenClaim := { program := "ythpnhfnilogflaa", sum := "9b68a0e37ba155b5972f57bcacf0712f0738fcfc5a8f8942fe1d9399bda51f41", func := "horologe/horologelaw2.DiskOwn", spec := "diskOwn", unfollowed := true, recurses := true, apart := false }
def DiskOwnSaid : Prop := diskOwnRow.holds Try.pinned (OpenSpec.ofChange diskOwnSpec)

/-- ITS FALSE NEIGHBOUR: 'it returns false'. Refute it at one input. -/
def diskOwnWrong : ChangeSpec := { name := "diskOwn", fn := fun _ => fun
  | [d1, d2] => { results := [.lit (.bool false)], args := [d1, d2] }
  | _ => none }
def DiskOwnWrongFalsely : Prop := diskOwnRow.holds Try.pinned (OpenSpec.ofChange diskOwnWrong)

/-- 'horologelaw2.DiskFull': WHATEVER THE INPUT: true; the input reads as it did. -/
def diskFullSpec : ChangeSpec := { name := "diskFull", fn := fun _ => fun
  | [d1, d2] => { results := [.lit (.bool true)], args := [d1, d2] }
  | _ => none }
def diskFullRow : OpenClaim := { program := "ythpnhfnilogflaa", sum := "9b68a0e37ba155b5972f57bcacf0712f0738fcfc5a8f8942fe1d9399bda51f41", func := "horologe/horologelaw2.DiskFull", spec := "diskFull", unfollowed := true, recurses := true, apart := false }
def DiskFullSaid : Prop := diskFullRow.holds Try.pinned (OpenSpec.ofChange diskFullSpec)

/-- ITS FALSE NEIGHBOUR: 'it returns false'. Refute it at one input. -/
def diskFullWrong : ChangeSpec := { name := "diskFull", fn := fun _ => fun
  | [d1, d2] => { results := [.lit (.bool false)], args := [d1, d2] }
  | _ => none }
def DiskFullWrongFalsely : Prop := diskFullRow.holds Try.pinned (OpenSpec.ofChange diskFullWrong)

/-- 'horologelaw2.DiskPublish': WHATEVER THE INPUT: true; the input reads as it did. -/
def diskPublishSpec : ChangeSpec := { name := "diskPublish", fn := fun _ => fun
  | [d1, d2, d3, d4] => { results := [.lit (.bool true)], args := [d1, d2, d3, d4] }
  | _ => none }
def diskPublishRow : OpenClaim := { program := "ythpnhfnilogflaa", sum := "9b68a0e37ba155b5972f57bcacf0712f0738fcfc5a8f8942fe1d9399bda51f41", func := "horologe/horologelaw2.DiskPublish", spec := "diskPublish", unfollowed := true, recurses := true, apart := false }
def DiskPublishSaid : Prop := diskPublishRow.holds Try.pinned (OpenSpec.ofChange diskPublishSpec)

/-- ITS FALSE NEIGHBOUR: 'it returns false'. Refute it at one input. -/
def diskPublishWrong : ChangeSpec := { name := "diskPublish", fn := fun _ => fun
  | [d1, d2, d3, d4] => { results := [.lit (.bool false)], args := [d1, d2, d3, d4] }
  | _ => none }
def DiskPublishWrongFalsely : Prop := diskPublishRow.holds Try.pinned (OpenSpec.ofChange diskPublishWrong)

/-- 'horologelaw2.DiskStays': WHATEVER THE INPUT: true; the input reads as it did. -/
def diskStaysSpec : ChangeSpec := { name := "diskStays", fn := fun _ => fun
  | [d1, d2, d3, d4] => { results := [.lit (.bool true)], args := [d1, d2, d3, d4] }
  | _ => none }
def diskStaysRow : OpenClaim := { program := "ythpnhfnilogflaa", sum := "9b68a0e37ba155b5972f57bcacf0712f0738fcfc5a8f8942fe1d9399bda51f41", func := "horologe/horologelaw2.DiskStays", spec := "diskStays", unfollowed := true, recurses := true, apart := false }
def DiskStaysSaid : Prop := diskStaysRow.holds Try.pinned (OpenSpec.ofChange diskStaysSpec)

/-- ITS FALSE NEIGHBOUR: 'it returns false'. Refute it at one input. -/
def diskStaysWrong : ChangeSpec := { name := "diskStays", fn := fun _ => fun
  | [d1, d2, d3, d4] => { results := [.lit (.bool false)], args := [d1, d2, d3, d4] }
  | _ => none }
def DiskStaysWrongFalsely : Prop := diskStaysRow.holds Try.pinned (OpenSpec.ofChange diskStaysWrong)

/-- 'horologelaw2.DiskNames': WHATEVER THE INPUT: true; the input reads as it did. -/
def diskNamesSpec : ChangeSpec := { name := "diskNames", fn := fun _ => fun
  | [d1, d2] => { results := [.lit (.bool true)], args := [d1, d2] }
  | _ => none }
def diskNamesRow : OpenClaim := { program := "ythpnhfnilogflaa", sum := "9b68a0e37ba155b5972f57bcacf0712f0738fcfc5a8f8942fe1d9399bda51f41", func := "horologe/horologelaw2.DiskNames", spec := "diskNames", unfollowed := true, recurses := true, apart := false }
def DiskNamesSaid : Prop := diskNamesRow.holds Try.pinned (OpenSpec.ofChange diskNamesSpec)

/-- ITS FALSE NEIGHBOUR: 'it returns false'. Refute it at one input. -/
def diskNamesWrong : ChangeSpec := { name := "diskNames", fn := fun _ => fun
  | [d1, d2] => { results := [.lit (.bool false)], args := [d1, d2] }
  | _ => none }
def DiskNamesWrongFalsely : Prop := diskNamesRow.holds Try.pinned (OpenSpec.ofChange diskNamesWrong)

/-- 'horologelaw2.DiskPlays': WHATEVER THE INPUT: true; the input reads as it did. -/
def diskPlaysSpec : ChangeSpec := { name := "diskPlays", fn := fun _ => fun
  | [d1, d2] => { results := [.lit (.bool true)], args := [d1, d2] }
  | _ => none }
def diskPlaysRow : OpenClaim := { program := "ythpnhfnilogflaa", sum := "9b68a0e37ba155b5972f57bcacf0712f0738fcfc5a8f8942fe1d9399bda51f41", func := "horologe/horologelaw2.DiskPlays", spec := "diskPlays", unfollowed := true, recurses := true, apart := false }
def DiskPlaysSaid : Prop := diskPlaysRow.holds Try.pinned (OpenSpec.ofChange diskPlaysSpec)

/-- ITS FALSE NEIGHBOUR: 'it returns false'. Refute it at one input. -/
def diskPlaysWrong : ChangeSpec := { name := "diskPlays", fn := fun _ => fun
  | [d1, d2] => { results := [.lit (.bool false)], args := [d1, d2] }
  | _ => none }
def DiskPlaysWrongFalsely : Prop := diskPlaysRow.holds Try.pinned (OpenSpec.ofChange diskPlaysWrong)

/-- 'horologelaw2.DiskDead': WHATEVER THE INPUT: true; the input reads as it did. -/
def diskDeadSpec : ChangeSpec := { name := "diskDead", fn := fun _ => fun
  | [d1, d2] => { results := [.lit (.bool true)], args := [d1, d2] }
  | _ => none }
def diskDeadRow : OpenClaim := { program := "ythpnhfnilogflaa", sum := "9b68a0e37ba155b5972f57bcacf0712f0738fcfc5a8f8942fe1d9399bda51f41", func := "horologe/horologelaw2.DiskDead", spec := "diskDead", unfollowed := true, recurses := true, apart := false }
def DiskDeadSaid : Prop := diskDeadRow.holds Try.pinned (OpenSpec.ofChange diskDeadSpec)

/-- ITS FALSE NEIGHBOUR: 'it returns false'. Refute it at one input. -/
def diskDeadWrong : ChangeSpec := { name := "diskDead", fn := fun _ => fun
  | [d1, d2] => { results := [.lit (.bool false)], args := [d1, d2] }
  | _ => none }
def DiskDeadWrongFalsely : Prop := diskDeadRow.holds Try.pinned (OpenSpec.ofChange diskDeadWrong)

/- THE SECOND FORM. 'bulk': how many values and letters a reading holds, each counted each time it is reached (what is shared counts as often as it is met; a slice's spare places count too). A statement '..UptoSaid' is the law's where the arguments, and the package variables that the reading takes, are together of bulk at most 1048576: NARROWER than '..Said'. Prove '..Said' where nothing that the law and all that it calls make is longer than what came in: it says more and counts as full. Else prove '..UptoSaid'. A law counts once. -/
mutual
def uptoBulk {H : Type} : DataW H → Nat
  | .lit (.string bytes) => bytes.length + 1
  | .lit _ => 1
  | .nil => 1
  | .ptr d => uptoBulk d + 1
  | .slice elems spare => uptoBulkAll elems + uptoBulkAll spare + 1
  | .agg parts => uptoBulkAll parts + 1
  | .iface _ d => uptoBulk d + 1
  | .map entries => uptoBulkEntries entries + 1
  | .held _ => 1
def uptoBulkAll {H : Type} : List (DataW H) → Nat
  | [] => 0
  | d :: r => uptoBulk d + uptoBulkAll r
def uptoBulkEntries {H : Type} : List (Lit × DataW H) → Nat
  | [] => 0
  | x :: r => uptoBulkEntry x + uptoBulkEntries r
def uptoBulkEntry {H : Type} : Lit × DataW H → Nat
  | (.string bytes, d) => bytes.length + uptoBulk d + 1
  | (_, d) => uptoBulk d + 1
 end
def uptoSmall : (H : Type) → List (DataW H) → Bool := fun _ ds => decide (uptoBulkAll ds ≤ 1048576)
def OpenSpec.upto (s : _root_.Go.ChangeSpec) : _root_.Go.OpenSpec := { _root_.Go.OpenSpec.ofChange s with cond := some uptoSmall }

/-- 'horologelaw2.DiskOwn', WHERE WHAT IT READS IS OF BULK AT MOST 1048576: true; the input reads as it did. -/
def diskOwnUptoRow : OpenClaim := { program := "ythpnhfnilogflaa", sum := "9b68a0e37ba155b5972f57bcacf0712f0738fcfc5a8f8942fe1d9399bda51f41", func := "horologe/horologelaw2.DiskOwn", spec := "diskOwn", unfollowed := true, recurses := true, apart := false, narrowed := true }
def DiskOwnUptoSaid : Prop := diskOwnUptoRow.holds Try.pinned (OpenSpec.upto diskOwnSpec)

/-- 'horologelaw2.DiskFull', WHERE WHAT IT READS IS OF BULK AT MOST 1048576: true; the input reads as it did. -/
def diskFullUptoRow : OpenClaim := { program := "ythpnhfnilogflaa", sum := "9b68a0e37ba155b5972f57bcacf0712f0738fcfc5a8f8942fe1d9399bda51f41", func := "horologe/horologelaw2.DiskFull", spec := "diskFull", unfollowed := true, recurses := true, apart := false, narrowed := true }
def DiskFullUptoSaid : Prop := diskFullUptoRow.holds Try.pinned (OpenSpec.upto diskFullSpec)

/-- 'horologelaw2.DiskPublish', WHERE WHAT IT READS IS OF BULK AT MOST 1048576: true; the input reads as it did. -/
def diskPublishUptoRow : OpenClaim := { program := "ythpnhfnilogflaa", sum := "9b68a0e37ba155b5972f57bcacf0712f0738fcfc5a8f8942fe1d9399bda51f41", func := "horologe/horologelaw2.DiskPublish", spec := "diskPublish", unfollowed := true, recurses := true, apart := false, narrowed := true }
def DiskPublishUptoSaid : Prop := diskPublishUptoRow.holds Try.pinned (OpenSpec.upto diskPublishSpec)

/-- 'horologelaw2.DiskStays', WHERE WHAT IT READS IS OF BULK AT MOST 1048576: true; the input reads as it did. -/
def diskStaysUptoRow : OpenClaim := { program := "ythpnhfnilogflaa", sum := "9b68a0e37ba155b5972f57bcacf0712f0738fcfc5a8f8942fe1d9399bda51f41", func := "horologe/horologelaw2.DiskStays", spec := "diskStays", unfollowed := true, recurses := true, apart := false, narrowed := true }
def DiskStaysUptoSaid : Prop := diskStaysUptoRow.holds Try.pinned (OpenSpec.upto diskStaysSpec)

/-- 'horologelaw2.DiskNames', WHERE WHAT IT READS IS OF BULK AT MOST 1048576: true; the input reads as it did. -/
def diskNamesUptoRow : OpenClaim := { program := "ythpnhfnilogflaa", sum := "9b68a0e37ba155b5972f57bcacf0712f0738fcfc5a8f8942fe1d9399bda51f41", func := "horologe/horologelaw2.DiskNames", spec := "diskNames", unfollowed := true, recurses := true, apart := false, narrowed := true }
def DiskNamesUptoSaid : Prop := diskNamesUptoRow.holds Try.pinned (OpenSpec.upto diskNamesSpec)

/-- 'horologelaw2.DiskPlays', WHERE WHAT IT READS IS OF BULK AT MOST 1048576: true; the input reads as it did. -/
def diskPlaysUptoRow : OpenClaim := { program := "ythpnhfnilogflaa", sum := "9b68a0e37ba155b5972f57bcacf0712f0738fcfc5a8f8942fe1d9399bda51f41", func := "horologe/horologelaw2.DiskPlays", spec := "diskPlays", unfollowed := true, recurses := true, apart := false, narrowed := true }
def DiskPlaysUptoSaid : Prop := diskPlaysUptoRow.holds Try.pinned (OpenSpec.upto diskPlaysSpec)

/-- 'horologelaw2.DiskDead', WHERE WHAT IT READS IS OF BULK AT MOST 1048576: true; the input reads as it did. -/
def diskDeadUptoRow : OpenClaim := { program := "ythpnhfnilogflaa", sum := "9b68a0e37ba155b5972f57bcacf0712f0738fcfc5a8f8942fe1d9399bda51f41", func := "horologe/horologelaw2.DiskDead", spec := "diskDead", unfollowed := true, recurses := true, apart := false, narrowed := true }
def DiskDeadUptoSaid : Prop := diskDeadUptoRow.holds Try.pinned (OpenSpec.upto diskDeadSpec)

end Rows
end Go.Proofs.Ythpnhfnilogflaa
