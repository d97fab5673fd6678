/-
  No cell of these rows narrows 'for every input' (looked for: loops, veiled, ifaces, maps, wideKeys, modest, calm, conditions, laid).
  DERIVED. THE GIVEN ROWS OF THIS SEAT. 4 by the template 'for every input the law returns true; each argument reads behind the call as it read before'; 0 by the template 'total and deterministic' (their statements: YtohkefolnmcjnaaTotals.lean).
  GIVEN WITH THE SEED: the statements are not yours to turn. If you find one false, say at which input.
  Laid BY PROGRAM, IN A SANDBOX (cutbox-rows.mjs): the forced cells as the released guide's own fill.sh prints them over the translation 7d03cf02fd8e68fb… (all of the seat's roots in one cut). By AI agents, Wed Nov 11 2026. No macro, syntax, notation, axiom, sorry.
-/
import Derived.Test.YtohkefolnmcjnaaChecked
import GoSem.Claim
import GoSem.ClaimJoined
import GoSem.ClaimMapViews
import Derived.JoinedTies
import Derived.KernelRfl
namespace Go.Proofs.Ytohkefolnmcjnaa
/- THE CELL 'sum', in the pinned program and in every row, IS THE sha256 OF THE DUMP (.gsa) THAT YtohkefolnmcjnaaProg.lean LOADS. Nothing in Lean hashes anything: it is a label: what it is worth is what the hold of that sum in a sandbox is worth. -/
noncomputable def Try.pinned : Pinned := { name := "ytohkefolnmcjnaa", sum := "7d03cf02fd8e68fb38d869ed4eb8cd65c308a722c6f55c79da12d02c0b2a5d75", checked := Try.checked }
namespace Rows
def none {H : Type} : Left H := { results := [], args := [] }

/-- 'casematelaw08.DriveBad': WHATEVER THE INPUT: true; the input reads as it did. -/
def driveBadSpec : ChangeSpec := { name := "driveBad", fn := fun _ => fun
  | [d1, d2, d3] => { results := [.lit (.bool true)], args := [d1, d2, d3] }
  | _ => none }
def driveBadRow : OpenClaim := { program := "ytohkefolnmcjnaa", sum := "7d03cf02fd8e68fb38d869ed4eb8cd65c308a722c6f55c79da12d02c0b2a5d75", func := "casemate/casematelaw08.DriveBad", spec := "driveBad", unfollowed := true, recurses := true, plainKeys := false, apart := false }
def DriveBadSaid : Prop := driveBadRow.holds Try.pinned (OpenSpec.ofChange driveBadSpec)

/-- ITS FALSE NEIGHBOUR: 'it returns false'. Refute it at one input. -/
def driveBadWrong : ChangeSpec := { name := "driveBad", fn := fun _ => fun
  | [d1, d2, d3] => { results := [.lit (.bool false)], args := [d1, d2, d3] }
  | _ => none }
def DriveBadWrongFalsely : Prop := driveBadRow.holds Try.pinned (OpenSpec.ofChange driveBadWrong)

/-- 'casematelaw08.DriveOthers': WHATEVER THE INPUT: true; the input reads as it did. -/
def driveOthersSpec : ChangeSpec := { name := "driveOthers", fn := fun _ => fun
  | [d1, d2, d3, d4] => { results := [.lit (.bool true)], args := [d1, d2, d3, d4] }
  | _ => none }
def driveOthersRow : OpenClaim := { program := "ytohkefolnmcjnaa", sum := "7d03cf02fd8e68fb38d869ed4eb8cd65c308a722c6f55c79da12d02c0b2a5d75", func := "casemate/casematelaw08.DriveOthers", spec := "driveOthers", unfollowed := true, recurses := true, plainKeys := false, apart := false }
def DriveOthersSaid : Prop := driveOthersRow.holds Try.pinned (OpenSpec.ofChange driveOthersSpec)

/-- ITS FALSE NEIGHBOUR: 'it returns false'. Refute it at one input. -/
def driveOthersWrong : ChangeSpec := { name := "driveOthers", fn := fun _ => fun
  | [d1, d2, d3, d4] => { results := [.lit (.bool false)], args := [d1, d2, d3, d4] }
  | _ => none }
def DriveOthersWrongFalsely : Prop := driveOthersRow.holds Try.pinned (OpenSpec.ofChange driveOthersWrong)

/-- 'casematelaw08.DriveNil': WHATEVER THE INPUT: true; the input reads as it did. -/
def driveNilSpec : ChangeSpec := { name := "driveNil", fn := fun _ => fun
  | [d1, d2, d3] => { results := [.lit (.bool true)], args := [d1, d2, d3] }
  | _ => none }
def driveNilRow : OpenClaim := { program := "ytohkefolnmcjnaa", sum := "7d03cf02fd8e68fb38d869ed4eb8cd65c308a722c6f55c79da12d02c0b2a5d75", func := "casemate/casematelaw08.DriveNil", spec := "driveNil", unfollowed := true, recurses := true, plainKeys := false, apart := false }
def DriveNilSaid : Prop := driveNilRow.holds Try.pinned (OpenSpec.ofChange driveNilSpec)

/-- ITS FALSE NEIGHBOUR: 'it returns false'. Refute it at one input. -/
def driveNilWrong : ChangeSpec := { name := "driveNil", fn := fun _ => fun
  | [d1, d2, d3] => { results := [.lit (.bool false)], args := [d1, d2, d3] }
  | _ => none }
def DriveNilWrongFalsely : Prop := driveNilRow.holds Try.pinned (OpenSpec.ofChange driveNilWrong)

/-- 'casematelaw08.DriveTorn': WHATEVER THE INPUT: true; the input reads as it did. -/
def driveTornSpec : ChangeSpec := { name := "driveTorn", fn := fun _ => fun
  | [d1, d2, d3] => { results := [.lit (.bool true)], args := [d1, d2, d3] }
  | _ => none }
def driveTornRow : OpenClaim := { program := "ytohkefolnmcjnaa", sum := "7d03cf02fd8e68fb38d869ed4eb8cd65c308a722c6f55c79da12d02c0b2a5d75", func := "casemate/casematelaw08.DriveTorn", spec := "driveTorn", unfollowed := true, recurses := true, plainKeys := false, apart := false }
def DriveTornSaid : Prop := driveTornRow.holds Try.pinned (OpenSpec.ofChange driveTornSpec)

/-- ITS FALSE NEIGHBOUR: 'it returns false'. Refute it at one input. -/
def driveTornWrong : ChangeSpec := { name := "driveTorn", fn := fun _ => fun
  | [d1, d2, d3] => { results := [.lit (.bool false)], args := [d1, d2, d3] }
  | _ => none }
def DriveTornWrongFalsely : Prop := driveTornRow.holds Try.pinned (OpenSpec.ofChange driveTornWrong)

/- THE SECOND FORM. 'bulk': how many values and letters a reading holds, each counted each time it is reached (what is shared counts as often as it is met; a slice's spare places count too). A statement '..UptoSaid' is the law's where the arguments, and the package variables that the reading takes, are together of bulk at most 1048576: NARROWER than '..Said'. Prove '..Said' where nothing that the law and all that it calls make is longer than what came in: it says more and counts as full. Else prove '..UptoSaid'. A law counts once. -/
mutual
def uptoBulk {H : Type} : DataW H → Nat
  | .lit (.string bytes) => bytes.length + 1
  | .lit _ => 1
  | .nil => 1
  | .ptr d => uptoBulk d + 1
  | .slice elems spare => uptoBulkAll elems + uptoBulkAll spare + 1
  | .agg parts => uptoBulkAll parts + 1
  | .iface _ d => uptoBulk d + 1
  | .map entries => uptoBulkEntries entries + 1
  | .held _ => 1
def uptoBulkAll {H : Type} : List (DataW H) → Nat
  | [] => 0
  | d :: r => uptoBulk d + uptoBulkAll r
def uptoBulkEntries {H : Type} : List (Lit × DataW H) → Nat
  | [] => 0
  | x :: r => uptoBulkEntry x + uptoBulkEntries r
def uptoBulkEntry {H : Type} : Lit × DataW H → Nat
  | (.string bytes, d) => bytes.length + uptoBulk d + 1
  | (_, d) => uptoBulk d + 1
 end
def uptoSmall : (H : Type) → List (DataW H) → Bool := fun _ ds => decide (uptoBulkAll ds ≤ 1048576)
def OpenSpec.upto (s : _root_.Go.ChangeSpec) : _root_.Go.OpenSpec := { _root_.Go.OpenSpec.ofChange s with cond := some uptoSmall }

/-- 'casematelaw08.DriveBad', WHERE WHAT IT READS IS OF BULK AT MOST 1048576: true; the input reads as it did. -/
def driveBadUptoRow : OpenClaim := { program := "ytohkefolnmcjnaa", sum := "7d03cf02fd8e68fb38d869ed4eb8cd65c308a722c6f55c79da12d02c0b2a5d75", func := "casemate/casematelaw08.DriveBad", spec := "driveBad", unfollowed := true, recurses := true, plainKeys := false, apart := false, narrowed := true }
def DriveBadUptoSaid : Prop := driveBadUptoRow.holds Try.pinned (OpenSpec.upto driveBadSpec)

/-- 'casematelaw08.DriveOthers', WHERE WHAT IT READS IS OF BULK AT MOST 1048576: true; the input reads as it did. -/
def driveOthersUptoRow : OpenClaim := { program := "ytohkefolnmcjnaa", sum := "7d03cf02fd8e68fb38d869ed4eb8cd65c308a722c6f55c79da12d02c0b2a5d75", func := "casemate/casematelaw08.DriveOthers", spec := "driveOthers", unfollowed := true, recurses := true, plainKeys := false, apart := false, narrowed := true }
def DriveOthersUptoSaid : Prop := driveOthersUptoRow.holds Try.pinned (OpenSpec.upto driveOthersSpec)

/-- 'casematelaw08.DriveNil', WHERE WHAT IT READS IS OF BULK AT MOST 1048576: true; the input reads as it did. -/
def driveNilUptoRow : OpenClaim := { program := "ytohkefolnmcjnaa", sum := "7d03cf02fd8e68fb38d869ed4eb8cd65c308a722c6f55c79da12d02c0b2a5d75", func := "casemate/casematelaw08.DriveNil", spec := "driveNil", unfollowed := true, recurses := true, plainKeys := false, apart := false, narrowed := true }
def DriveNilUptoSaid : Prop := driveNilUptoRow.holds Try.pinned (OpenSpec.upto driveNilSpec)

/-- 'casematelaw08.DriveTorn', WHERE WHAT IT READS IS OF BULK AT MOST 1048576: true; the input reads as it did. -/
def driveTornUptoRow : OpenClaim := { program := "ytohkefolnmcjnaa", sum := "7d03cf02fd8e68fb38d869ed4eb8cd65c308a722c6f55c79da12d02c0b2a5d75", func := "casemate/casematelaw08.DriveTorn", spec := "driveTorn", unfollowed := true, recurses := true, plainKeys := false, apart := false, narrowed := true }
def DriveTornUptoSaid : Prop := driveTornUptoRow.holds Try.pinned (OpenSpec.upto driveTornSpec)

end Rows
end Go.Proofs.Ytohkefolnmcjnaa
