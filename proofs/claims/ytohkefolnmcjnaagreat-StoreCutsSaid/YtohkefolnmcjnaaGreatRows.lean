/-
  No cell of these rows narrows 'for every input' (looked for: loops, veiled, ifaces, maps, wideKeys, modest, calm, conditions, laid).
  DERIVED. THE GIVEN ROWS OF THIS SEAT. 8 by the template 'for every input the law returns true; each argument reads behind the call as it read before'; 0 by the template 'total and deterministic' (their statements: YtohkefolnmcjnaaGreatTotals.lean).
  GIVEN WITH THE SEED: the statements are not yours to turn. If you find one false, say at which input.
  Laid BY PROGRAM, IN A SANDBOX (cutbox-rows.mjs): the forced cells as the released guide's own fill.sh prints them over the translation 30e1841ab1faa41d… (all of the seat's roots in one cut). By AI agents, Wed Nov 11 2026. No macro, syntax, notation, axiom, sorry.
-/
import Derived.Test.YtohkefolnmcjnaaGreatChecked
import GoSem.Claim
import GoSem.ClaimJoined
import GoSem.ClaimMapViews
import Derived.JoinedTies
import Derived.KernelRfl
namespace Go.Proofs.YtohkefolnmcjnaaGreat
/- THE CELL 'sum', in the pinned program and in every row, IS THE sha256 OF THE DUMP (.gsa) THAT YtohkefolnmcjnaaGreatProg.lean LOADS. Nothing in Lean hashes anything: it is a label: what it is worth is what the hold of that sum in a sandbox is worth. -/
noncomputable def Tryz.pinned : Pinned := { name := "ytohkefolnmcjnaagreat", sum := "30e1841ab1faa41d33b5354e045c473518c7709d05afc92369b5f95d3a47d153", checked := Tryz.checked }
namespace Rows
def none {H : Type} : Left H := { results := [], args := [] }

/-- 'casematelaw08.DriveDoes': WHATEVER THE INPUT: true; the input reads as it did. -/
def driveDoesSpec : ChangeSpec := { name := "driveDoes", fn := fun _ => fun
  | [d1, d2] => { results := [.lit (.bool true)], args := [d1, d2] }
  | _ => none }
def driveDoesRow : OpenClaim := { program := "ytohkefolnmcjnaagreat", sum := "30e1841ab1faa41d33b5354e045c473518c7709d05afc92369b5f95d3a47d153", func := "casemate/casematelaw08.DriveDoes", spec := "driveDoes", unfollowed := true, recurses := true, plainKeys := false, apart := false }
def DriveDoesSaid : Prop := driveDoesRow.holds Tryz.pinned (OpenSpec.ofChange driveDoesSpec)

/-- ITS FALSE NEIGHBOUR: 'it returns false'. Refute it at one input. -/
def driveDoesWrong : ChangeSpec := { name := "driveDoes", fn := fun _ => fun
  | [d1, d2] => { results := [.lit (.bool false)], args := [d1, d2] }
  | _ => none }
def DriveDoesWrongFalsely : Prop := driveDoesRow.holds Tryz.pinned (OpenSpec.ofChange driveDoesWrong)

/-- 'casematelaw08.DriveReads': WHATEVER THE INPUT: true; the input reads as it did. -/
def driveReadsSpec : ChangeSpec := { name := "driveReads", fn := fun _ => fun
  | [d1, d2, d3, d4] => { results := [.lit (.bool true)], args := [d1, d2, d3, d4] }
  | _ => none }
def driveReadsRow : OpenClaim := { program := "ytohkefolnmcjnaagreat", sum := "30e1841ab1faa41d33b5354e045c473518c7709d05afc92369b5f95d3a47d153", func := "casemate/casematelaw08.DriveReads", spec := "driveReads", unfollowed := true, recurses := true, plainKeys := false, apart := false }
def DriveReadsSaid : Prop := driveReadsRow.holds Tryz.pinned (OpenSpec.ofChange driveReadsSpec)

/-- ITS FALSE NEIGHBOUR: 'it returns false'. Refute it at one input. -/
def driveReadsWrong : ChangeSpec := { name := "driveReads", fn := fun _ => fun
  | [d1, d2, d3, d4] => { results := [.lit (.bool false)], args := [d1, d2, d3, d4] }
  | _ => none }
def DriveReadsWrongFalsely : Prop := driveReadsRow.holds Tryz.pinned (OpenSpec.ofChange driveReadsWrong)

/-- 'casematelaw11.StoreNil': WHATEVER THE INPUT: true; the input reads as it did. -/
def storeNilSpec : ChangeSpec := { name := "storeNil", fn := fun _ => fun
  | [d1, d2] => { results := [.lit (.bool true)], args := [d1, d2] }
  | _ => none }
def storeNilRow : OpenClaim := { program := "ytohkefolnmcjnaagreat", sum := "30e1841ab1faa41d33b5354e045c473518c7709d05afc92369b5f95d3a47d153", func := "casemate/casematelaw11.StoreNil", spec := "storeNil", unfollowed := true, recurses := true, plainKeys := false, apart := false }
def StoreNilSaid : Prop := storeNilRow.holds Tryz.pinned (OpenSpec.ofChange storeNilSpec)

/-- ITS FALSE NEIGHBOUR: 'it returns false'. Refute it at one input. -/
def storeNilWrong : ChangeSpec := { name := "storeNil", fn := fun _ => fun
  | [d1, d2] => { results := [.lit (.bool false)], args := [d1, d2] }
  | _ => none }
def StoreNilWrongFalsely : Prop := storeNilRow.holds Tryz.pinned (OpenSpec.ofChange storeNilWrong)

/-- 'casematelaw11.StoreOpens': WHATEVER THE INPUT: true; the input reads as it did. -/
def storeOpensSpec : ChangeSpec := { name := "storeOpens", fn := fun _ => fun
  | [d1, d2] => { results := [.lit (.bool true)], args := [d1, d2] }
  | _ => none }
def storeOpensRow : OpenClaim := { program := "ytohkefolnmcjnaagreat", sum := "30e1841ab1faa41d33b5354e045c473518c7709d05afc92369b5f95d3a47d153", func := "casemate/casematelaw11.StoreOpens", spec := "storeOpens", unfollowed := true, recurses := true, plainKeys := false, apart := false }
def StoreOpensSaid : Prop := storeOpensRow.holds Tryz.pinned (OpenSpec.ofChange storeOpensSpec)

/-- ITS FALSE NEIGHBOUR: 'it returns false'. Refute it at one input. -/
def storeOpensWrong : ChangeSpec := { name := "storeOpens", fn := fun _ => fun
  | [d1, d2] => { results := [.lit (.bool false)], args := [d1, d2] }
  | _ => none }
def StoreOpensWrongFalsely : Prop := storeOpensRow.holds Tryz.pinned (OpenSpec.ofChange storeOpensWrong)

/-- 'casematelaw11.StoreAgain': WHATEVER THE INPUT: true; the input reads as it did. -/
def storeAgainSpec : ChangeSpec := { name := "storeAgain", fn := fun _ => fun
  | [d1, d2, d3] => { results := [.lit (.bool true)], args := [d1, d2, d3] }
  | _ => none }
def storeAgainRow : OpenClaim := { program := "ytohkefolnmcjnaagreat", sum := "30e1841ab1faa41d33b5354e045c473518c7709d05afc92369b5f95d3a47d153", func := "casemate/casematelaw11.StoreAgain", spec := "storeAgain", unfollowed := true, recurses := true, plainKeys := false, apart := false }
def StoreAgainSaid : Prop := storeAgainRow.holds Tryz.pinned (OpenSpec.ofChange storeAgainSpec)

/-- ITS FALSE NEIGHBOUR: 'it returns false'. Refute it at one input. -/
def storeAgainWrong : ChangeSpec := { name := "storeAgain", fn := fun _ => fun
  | [d1, d2, d3] => { results := [.lit (.bool false)], args := [d1, d2, d3] }
  | _ => none }
def StoreAgainWrongFalsely : Prop := storeAgainRow.holds Tryz.pinned (OpenSpec.ofChange storeAgainWrong)

/-- 'casematelaw11.StoreFew': WHATEVER THE INPUT: true; the input reads as it did. -/
def storeFewSpec : ChangeSpec := { name := "storeFew", fn := fun _ => fun
  | [d1, d2, d3] => { results := [.lit (.bool true)], args := [d1, d2, d3] }
  | _ => none }
def storeFewRow : OpenClaim := { program := "ytohkefolnmcjnaagreat", sum := "30e1841ab1faa41d33b5354e045c473518c7709d05afc92369b5f95d3a47d153", func := "casemate/casematelaw11.StoreFew", spec := "storeFew", unfollowed := true, recurses := true, plainKeys := false, apart := false }
def StoreFewSaid : Prop := storeFewRow.holds Tryz.pinned (OpenSpec.ofChange storeFewSpec)

/-- ITS FALSE NEIGHBOUR: 'it returns false'. Refute it at one input. -/
def storeFewWrong : ChangeSpec := { name := "storeFew", fn := fun _ => fun
  | [d1, d2, d3] => { results := [.lit (.bool false)], args := [d1, d2, d3] }
  | _ => none }
def StoreFewWrongFalsely : Prop := storeFewRow.holds Tryz.pinned (OpenSpec.ofChange storeFewWrong)

/-- 'casematelaw11.StoreCuts': WHATEVER THE INPUT: true; the input reads as it did. -/
def storeCutsSpec : ChangeSpec := { name := "storeCuts", fn := fun _ => fun
  | [d1, d2, d3, d4] => { results := [.lit (.bool true)], args := [d1, d2, d3, d4] }
  | _ => none }
def storeCutsRow : OpenClaim := { program := "ytohkefolnmcjnaagreat", sum := "30e1841ab1faa41d33b5354e045c473518c7709d05afc92369b5f95d3a47d153", func := "casemate/casematelaw11.StoreCuts", spec := "storeCuts", unfollowed := true, recurses := true, plainKeys := false, apart := false }
def StoreCutsSaid : Prop := storeCutsRow.holds Tryz.pinned (OpenSpec.ofChange storeCutsSpec)

/-- ITS FALSE NEIGHBOUR: 'it returns false'. Refute it at one input. -/
def storeCutsWrong : ChangeSpec := { name := "storeCuts", fn := fun _ => fun
  | [d1, d2, d3, d4] => { results := [.lit (.bool false)], args := [d1, d2, d3, d4] }
  | _ => none }
def StoreCutsWrongFalsely : Prop := storeCutsRow.holds Tryz.pinned (OpenSpec.ofChange storeCutsWrong)

/-- 'casematelaw11.StoreDoes': WHATEVER THE INPUT: true; the input reads as it did. -/
def storeDoesSpec : ChangeSpec := { name := "storeDoes", fn := fun _ => fun
  | [d1, d2, d3, d4] => { results := [.lit (.bool true)], args := [d1, d2, d3, d4] }
  | _ => none }
def storeDoesRow : OpenClaim := { program := "ytohkefolnmcjnaagreat", sum := "30e1841ab1faa41d33b5354e045c473518c7709d05afc92369b5f95d3a47d153", func := "casemate/casematelaw11.StoreDoes", spec := "storeDoes", unfollowed := true, recurses := true, plainKeys := false, apart := false }
def StoreDoesSaid : Prop := storeDoesRow.holds Tryz.pinned (OpenSpec.ofChange storeDoesSpec)

/-- ITS FALSE NEIGHBOUR: 'it returns false'. Refute it at one input. -/
def storeDoesWrong : ChangeSpec := { name := "storeDoes", fn := fun _ => fun
  | [d1, d2, d3, d4] => { results := [.lit (.bool false)], args := [d1, d2, d3, d4] }
  | _ => none }
def StoreDoesWrongFalsely : Prop := storeDoesRow.holds Tryz.pinned (OpenSpec.ofChange storeDoesWrong)

/- THE SECOND FORM. 'bulk': how many values and letters a reading holds, each counted each time it is reached (what is shared counts as often as it is met; a slice's spare places count too). A statement '..UptoSaid' is the law's where the arguments, and the package variables that the reading takes, are together of bulk at most 1048576: NARROWER than '..Said'. Prove '..Said' where nothing that the law and all that it calls make is longer than what came in: it says more and counts as full. Else prove '..UptoSaid'. A law counts once. -/
mutual
def uptoBulk {H : Type} : DataW H → Nat
  | .lit (.string bytes) => bytes.length + 1
  | .lit _ => 1
  | .nil => 1
  | .ptr d => uptoBulk d + 1
  | .slice elems spare => uptoBulkAll elems + uptoBulkAll spare + 1
  | .agg parts => uptoBulkAll parts + 1
  | .iface _ d => uptoBulk d + 1
  | .map entries => uptoBulkEntries entries + 1
  | .held _ => 1
def uptoBulkAll {H : Type} : List (DataW H) → Nat
  | [] => 0
  | d :: r => uptoBulk d + uptoBulkAll r
def uptoBulkEntries {H : Type} : List (Lit × DataW H) → Nat
  | [] => 0
  | x :: r => uptoBulkEntry x + uptoBulkEntries r
def uptoBulkEntry {H : Type} : Lit × DataW H → Nat
  | (.string bytes, d) => bytes.length + uptoBulk d + 1
  | (_, d) => uptoBulk d + 1
 end
def uptoSmall : (H : Type) → List (DataW H) → Bool := fun _ ds => decide (uptoBulkAll ds ≤ 1048576)
def OpenSpec.upto (s : _root_.Go.ChangeSpec) : _root_.Go.OpenSpec := { _root_.Go.OpenSpec.ofChange s with cond := some uptoSmall }

/-- 'casematelaw08.DriveDoes', WHERE WHAT IT READS IS OF BULK AT MOST 1048576: true; the input reads as it did. -/
def driveDoesUptoRow : OpenClaim := { program := "ytohkefolnmcjnaagreat", sum := "30e1841ab1faa41d33b5354e045c473518c7709d05afc92369b5f95d3a47d153", func := "casemate/casematelaw08.DriveDoes", spec := "driveDoes", unfollowed := true, recurses := true, plainKeys := false, apart := false, narrowed := true }
def DriveDoesUptoSaid : Prop := driveDoesUptoRow.holds Tryz.pinned (OpenSpec.upto driveDoesSpec)

/-- 'casematelaw08.DriveReads', WHERE WHAT IT READS IS OF BULK AT MOST 1048576: true; the input reads as it did. -/
def driveReadsUptoRow : OpenClaim := { program := "ytohkefolnmcjnaagreat", sum := "30e1841ab1faa41d33b5354e045c473518c7709d05afc92369b5f95d3a47d153", func := "casemate/casematelaw08.DriveReads", spec := "driveReads", unfollowed := true, recurses := true, plainKeys := false, apart := false, narrowed := true }
def DriveReadsUptoSaid : Prop := driveReadsUptoRow.holds Tryz.pinned (OpenSpec.upto driveReadsSpec)

/-- 'casematelaw11.StoreNil', WHERE WHAT IT READS IS OF BULK AT MOST 1048576: true; the input reads as it did. -/
def storeNilUptoRow : OpenClaim := { program := "ytohkefolnmcjnaagreat", sum := "30e1841ab1faa41d33b5354e045c473518c7709d05afc92369b5f95d3a47d153", func := "casemate/casematelaw11.StoreNil", spec := "storeNil", unfollowed := true, recurses := true, plainKeys := false, apart := false, narrowed := true }
def StoreNilUptoSaid : Prop := storeNilUptoRow.holds Tryz.pinned (OpenSpec.upto storeNilSpec)

/-- 'casematelaw11.StoreOpens', WHERE WHAT IT READS IS OF BULK AT MOST 1048576: true; the input reads as it did. -/
def storeOpensUptoRow : OpenClaim := { program := "ytohkefolnmcjnaagreat", sum := "30e1841ab1faa41d33b5354e045c473518c7709d05afc92369b5f95d3a47d153", func := "casemate/casematelaw11.StoreOpens", spec := "storeOpens", unfollowed := true, recurses := true, plainKeys := false, apart := false, narrowed := true }
def StoreOpensUptoSaid : Prop := storeOpensUptoRow.holds Tryz.pinned (OpenSpec.upto storeOpensSpec)

/-- 'casematelaw11.StoreAgain', WHERE WHAT IT READS IS OF BULK AT MOST 1048576: true; the input reads as it did. -/
def storeAgainUptoRow : OpenClaim := { program := "ytohkefolnmcjnaagreat", sum := "30e1841ab1faa41d33b5354e045c473518c7709d05afc92369b5f95d3a47d153", func := "casemate/casematelaw11.StoreAgain", spec := "storeAgain", unfollowed := true, recurses := true, plainKeys := false, apart := false, narrowed := true }
def StoreAgainUptoSaid : Prop := storeAgainUptoRow.holds Tryz.pinned (OpenSpec.upto storeAgainSpec)

/-- 'casematelaw11.StoreFew', WHERE WHAT IT READS IS OF BULK AT MOST 1048576: true; the input reads as it did. -/
def storeFewUptoRow : OpenClaim := { program := "ytohkefolnmcjnaagreat", sum := "30e1841ab1faa41d33b5354e045c473518c7709d05afc92369b5f95d3a47d153", func := "casemate/casematelaw11.StoreFew", spec := "storeFew", unfollowed := true, recurses := true, plainKeys := false, apart := false, narrowed := true }
def StoreFewUptoSaid : Prop := storeFewUptoRow.holds Tryz.pinned (OpenSpec.upto storeFewSpec)

/-- 'casematelaw11.StoreCuts', WHERE WHAT IT READS IS OF BULK AT MOST 1048576: true; the input reads as it did. -/
def storeCutsUptoRow : OpenClaim := { program := "ytohkefolnmcjnaagreat", sum := "30e1841ab1faa41d33b5354e045c473518c7709d05afc92369b5f95d3a47d153", func := "casemate/casematelaw11.StoreCuts", spec := "storeCuts", unfollowed := true, recurses := true, plainKeys := false, apart := false, narrowed := true }
def StoreCutsUptoSaid : Prop := storeCutsUptoRow.holds Tryz.pinned (OpenSpec.upto storeCutsSpec)

/-- 'casematelaw11.StoreDoes', WHERE WHAT IT READS IS OF BULK AT MOST 1048576: true; the input reads as it did. -/
def storeDoesUptoRow : OpenClaim := { program := "ytohkefolnmcjnaagreat", sum := "30e1841ab1faa41d33b5354e045c473518c7709d05afc92369b5f95d3a47d153", func := "casemate/casematelaw11.StoreDoes", spec := "storeDoes", unfollowed := true, recurses := true, plainKeys := false, apart := false, narrowed := true }
def StoreDoesUptoSaid : Prop := storeDoesUptoRow.holds Tryz.pinned (OpenSpec.upto storeDoesSpec)

end Rows
end Go.Proofs.YtohkefolnmcjnaaGreat
