/-
  No cell of these rows narrows 'for every input' (looked for: loops, veiled, ifaces, maps, wideKeys, modest, calm, conditions, laid).
  DERIVED. THE GIVEN ROWS OF THIS SEAT. 8 by the template 'for every input the law returns true; each argument reads behind the call as it read before'; 0 by the template 'total and deterministic' (their statements: YtgmdagjnigkaaaaTotals.lean).
  GIVEN WITH THE SEED: the statements are not yours to turn. If you find one false, say at which input.
  Laid BY PROGRAM, IN A SANDBOX (cutbox-rows.mjs): the forced cells as the released guide's own fill.sh prints them over the translation bd27b62e38cb3aec… (all of the seat's roots in one cut). By AI agents, Wed Nov 11 2026. No macro, syntax, notation, axiom, sorry.
-/
import Derived.Test.YtgmdagjnigkaaaaChecked
import GoSem.Claim
import GoSem.ClaimJoined
import GoSem.ClaimMapViews
import Derived.JoinedTies
import Derived.KernelRfl
namespace Go.Proofs.Ytgmdagjnigkaaaa
/- THE CELL 'sum', in the pinned program and in every row, IS THE sha256 OF THE DUMP (.gsa) THAT YtgmdagjnigkaaaaProg.lean LOADS. Nothing in Lean hashes anything: it is a label: what it is worth is what the hold of that sum in a sandbox is worth. -/
noncomputable def Try.pinned : Pinned := { name := "ytgmdagjnigkaaaa", sum := "bd27b62e38cb3aecdaa87b077d74f05c18ef4340c682b50d63dfc61c0393d62b", checked := Try.checked }
namespace Rows
def none {H : Type} : Left H := { results := [], args := [] }

/-- 'casematelaw07.ChipCounts': WHATEVER THE INPUT: true; the input reads as it did. -/
def chipCountsSpec : ChangeSpec := { name := "chipCounts", fn := fun _ => fun
  | [d1, d2] => { results := [.lit (.bool true)], args := [d1, d2] }
  | _ => none }
def chipCountsRow : OpenClaim := { program := "ytgmdagjnigkaaaa", sum := "bd27b62e38cb3aecdaa87b077d74f05c18ef4340c682b50d63dfc61c0393d62b", func := "casemate/casematelaw07.ChipCounts", spec := "chipCounts", unfollowed := true, recurses := true, plainKeys := false, apart := false }
def ChipCountsSaid : Prop := chipCountsRow.holds Try.pinned (OpenSpec.ofChange chipCountsSpec)

/-- ITS FALSE NEIGHBOUR: 'it returns false'. Refute it at one input. -/
def chipCountsWrong : ChangeSpec := { name := "chipCounts", fn := fun _ => fun
  | [d1, d2] => { results := [.lit (.bool false)], args := [d1, d2] }
  | _ => none }
def ChipCountsWrongFalsely : Prop := chipCountsRow.holds Try.pinned (OpenSpec.ofChange chipCountsWrong)

/-- 'casematelaw07.ChipOnce': WHATEVER THE INPUT: true; the input reads as it did. -/
def chipOnceSpec : ChangeSpec := { name := "chipOnce", fn := fun _ => fun
  | [d1, d2, d3] => { results := [.lit (.bool true)], args := [d1, d2, d3] }
  | _ => none }
def chipOnceRow : OpenClaim := { program := "ytgmdagjnigkaaaa", sum := "bd27b62e38cb3aecdaa87b077d74f05c18ef4340c682b50d63dfc61c0393d62b", func := "casemate/casematelaw07.ChipOnce", spec := "chipOnce", unfollowed := true, recurses := true, plainKeys := false, apart := false }
def ChipOnceSaid : Prop := chipOnceRow.holds Try.pinned (OpenSpec.ofChange chipOnceSpec)

/-- ITS FALSE NEIGHBOUR: 'it returns false'. Refute it at one input. -/
def chipOnceWrong : ChangeSpec := { name := "chipOnce", fn := fun _ => fun
  | [d1, d2, d3] => { results := [.lit (.bool false)], args := [d1, d2, d3] }
  | _ => none }
def ChipOnceWrongFalsely : Prop := chipOnceRow.holds Try.pinned (OpenSpec.ofChange chipOnceWrong)

/-- 'casematelaw07.ChipCuts': WHATEVER THE INPUT: true; the input reads as it did. -/
def chipCutsSpec : ChangeSpec := { name := "chipCuts", fn := fun _ => fun
  | [d1, d2, d3, d4] => { results := [.lit (.bool true)], args := [d1, d2, d3, d4] }
  | _ => none }
def chipCutsRow : OpenClaim := { program := "ytgmdagjnigkaaaa", sum := "bd27b62e38cb3aecdaa87b077d74f05c18ef4340c682b50d63dfc61c0393d62b", func := "casemate/casematelaw07.ChipCuts", spec := "chipCuts", unfollowed := true, recurses := true, plainKeys := false, apart := false }
def ChipCutsSaid : Prop := chipCutsRow.holds Try.pinned (OpenSpec.ofChange chipCutsSpec)

/-- ITS FALSE NEIGHBOUR: 'it returns false'. Refute it at one input. -/
def chipCutsWrong : ChangeSpec := { name := "chipCuts", fn := fun _ => fun
  | [d1, d2, d3, d4] => { results := [.lit (.bool false)], args := [d1, d2, d3, d4] }
  | _ => none }
def ChipCutsWrongFalsely : Prop := chipCutsRow.holds Try.pinned (OpenSpec.ofChange chipCutsWrong)

/-- 'casematelaw07.ChipKeeps': WHATEVER THE INPUT: true; the input reads as it did. -/
def chipKeepsSpec : ChangeSpec := { name := "chipKeeps", fn := fun _ => fun
  | [d1, d2, d3] => { results := [.lit (.bool true)], args := [d1, d2, d3] }
  | _ => none }
def chipKeepsRow : OpenClaim := { program := "ytgmdagjnigkaaaa", sum := "bd27b62e38cb3aecdaa87b077d74f05c18ef4340c682b50d63dfc61c0393d62b", func := "casemate/casematelaw07.ChipKeeps", spec := "chipKeeps", unfollowed := true, recurses := true, plainKeys := false, apart := false }
def ChipKeepsSaid : Prop := chipKeepsRow.holds Try.pinned (OpenSpec.ofChange chipKeepsSpec)

/-- ITS FALSE NEIGHBOUR: 'it returns false'. Refute it at one input. -/
def chipKeepsWrong : ChangeSpec := { name := "chipKeeps", fn := fun _ => fun
  | [d1, d2, d3] => { results := [.lit (.bool false)], args := [d1, d2, d3] }
  | _ => none }
def ChipKeepsWrongFalsely : Prop := chipKeepsRow.holds Try.pinned (OpenSpec.ofChange chipKeepsWrong)

/-- 'casematelaw10.AttachOrder': WHATEVER THE INPUT: true; the input reads as it did. -/
def attachOrderSpec : ChangeSpec := { name := "attachOrder", fn := fun _ => fun
  | [d1, d2, d3] => { results := [.lit (.bool true)], args := [d1, d2, d3] }
  | _ => none }
def attachOrderRow : OpenClaim := { program := "ytgmdagjnigkaaaa", sum := "bd27b62e38cb3aecdaa87b077d74f05c18ef4340c682b50d63dfc61c0393d62b", func := "casemate/casematelaw10.AttachOrder", spec := "attachOrder", unfollowed := true, recurses := true, plainKeys := false, apart := false }
def AttachOrderSaid : Prop := attachOrderRow.holds Try.pinned (OpenSpec.ofChange attachOrderSpec)

/-- ITS FALSE NEIGHBOUR: 'it returns false'. Refute it at one input. -/
def attachOrderWrong : ChangeSpec := { name := "attachOrder", fn := fun _ => fun
  | [d1, d2, d3] => { results := [.lit (.bool false)], args := [d1, d2, d3] }
  | _ => none }
def AttachOrderWrongFalsely : Prop := attachOrderRow.holds Try.pinned (OpenSpec.ofChange attachOrderWrong)

/-- 'casematelaw07.ChipFlips': WHATEVER THE INPUT: true; the input reads as it did. -/
def chipFlipsSpec : ChangeSpec := { name := "chipFlips", fn := fun _ => fun
  | [d1, d2, d3, d4, d5] => { results := [.lit (.bool true)], args := [d1, d2, d3, d4, d5] }
  | _ => none }
def chipFlipsRow : OpenClaim := { program := "ytgmdagjnigkaaaa", sum := "bd27b62e38cb3aecdaa87b077d74f05c18ef4340c682b50d63dfc61c0393d62b", func := "casemate/casematelaw07.ChipFlips", spec := "chipFlips", unfollowed := true, recurses := true, plainKeys := false, apart := false }
def ChipFlipsSaid : Prop := chipFlipsRow.holds Try.pinned (OpenSpec.ofChange chipFlipsSpec)

/-- ITS FALSE NEIGHBOUR: 'it returns false'. Refute it at one input. -/
def chipFlipsWrong : ChangeSpec := { name := "chipFlips", fn := fun _ => fun
  | [d1, d2, d3, d4, d5] => { results := [.lit (.bool false)], args := [d1, d2, d3, d4, d5] }
  | _ => none }
def ChipFlipsWrongFalsely : Prop := chipFlipsRow.holds Try.pinned (OpenSpec.ofChange chipFlipsWrong)

/-- 'casematelaw07.ChipDoes': WHATEVER THE INPUT: true; the input reads as it did. -/
def chipDoesSpec : ChangeSpec := { name := "chipDoes", fn := fun _ => fun
  | [d1, d2, d3] => { results := [.lit (.bool true)], args := [d1, d2, d3] }
  | _ => none }
def chipDoesRow : OpenClaim := { program := "ytgmdagjnigkaaaa", sum := "bd27b62e38cb3aecdaa87b077d74f05c18ef4340c682b50d63dfc61c0393d62b", func := "casemate/casematelaw07.ChipDoes", spec := "chipDoes", unfollowed := true, recurses := true, plainKeys := false, apart := false }
def ChipDoesSaid : Prop := chipDoesRow.holds Try.pinned (OpenSpec.ofChange chipDoesSpec)

/-- ITS FALSE NEIGHBOUR: 'it returns false'. Refute it at one input. -/
def chipDoesWrong : ChangeSpec := { name := "chipDoes", fn := fun _ => fun
  | [d1, d2, d3] => { results := [.lit (.bool false)], args := [d1, d2, d3] }
  | _ => none }
def ChipDoesWrongFalsely : Prop := chipDoesRow.holds Try.pinned (OpenSpec.ofChange chipDoesWrong)

/-- 'casematelaw07.ChipNil': WHATEVER THE INPUT: true; the input reads as it did. -/
def chipNilSpec : ChangeSpec := { name := "chipNil", fn := fun _ => fun
  | [d1, d2, d3] => { results := [.lit (.bool true)], args := [d1, d2, d3] }
  | _ => none }
def chipNilRow : OpenClaim := { program := "ytgmdagjnigkaaaa", sum := "bd27b62e38cb3aecdaa87b077d74f05c18ef4340c682b50d63dfc61c0393d62b", func := "casemate/casematelaw07.ChipNil", spec := "chipNil", unfollowed := true, recurses := true, plainKeys := false, apart := false }
def ChipNilSaid : Prop := chipNilRow.holds Try.pinned (OpenSpec.ofChange chipNilSpec)

/-- ITS FALSE NEIGHBOUR: 'it returns false'. Refute it at one input. -/
def chipNilWrong : ChangeSpec := { name := "chipNil", fn := fun _ => fun
  | [d1, d2, d3] => { results := [.lit (.bool false)], args := [d1, d2, d3] }
  | _ => none }
def ChipNilWrongFalsely : Prop := chipNilRow.holds Try.pinned (OpenSpec.ofChange chipNilWrong)

/- THE SECOND FORM. 'bulk': how many values and letters a reading holds, each counted each time it is reached (what is shared counts as often as it is met; a slice's spare places count too). A statement '..UptoSaid' is the law's where the arguments, and the package variables that the reading takes, are together of bulk at most 1048576: NARROWER than '..Said'. Prove '..Said' where nothing that the law and all that it calls make is longer than what came in: it says more and counts as full. Else prove '..UptoSaid'. A law counts once. -/
mutual
def uptoBulk {H : Type} : DataW H → Nat
  | .lit (.string bytes) => bytes.length + 1
  | .lit _ => 1
  | .nil => 1
  | .ptr d => uptoBulk d + 1
  | .slice elems spare => uptoBulkAll elems + uptoBulkAll spare + 1
  | .agg parts => uptoBulkAll parts + 1
  | .iface _ d => uptoBulk d + 1
  | .map entries => uptoBulkEntries entries + 1
  | .held _ => 1
def uptoBulkAll {H : Type} : List (DataW H) → Nat
  | [] => 0
  | d :: r => uptoBulk d + uptoBulkAll r
def uptoBulkEntries {H : Type} : List (Lit × DataW H) → Nat
  | [] => 0
  | x :: r => uptoBulkEntry x + uptoBulkEntries r
def uptoBulkEntry {H : Type} : Lit × DataW H → Nat
  | (.string bytes, d) => bytes.length + uptoBulk d + 1
  | (_, d) => uptoBulk d + 1
 end
def uptoSmall : (H : Type) → List (DataW H) → Bool := fun _ ds => decide (uptoBulkAll ds ≤ 1048576)
def OpenSpec.upto (s : _root_.Go.ChangeSpec) : _root_.Go.OpenSpec := { _root_.Go.OpenSpec.ofChange s with cond := some uptoSmall }

/-- 'casematelaw07.ChipCounts', WHERE WHAT IT READS IS OF BULK AT MOST 1048576: true; the input reads as it did. -/
def chipCountsUptoRow : OpenClaim := { program := "ytgmdagjnigkaaaa", sum := "bd27b62e38cb3aecdaa87b077d74f05c18ef4340c682b50d63dfc61c0393d62b", func := "casemate/casematelaw07.ChipCounts", spec := "chipCounts", unfollowed := true, recurses := true, plainKeys := false, apart := false, narrowed := true }
def ChipCountsUptoSaid : Prop := chipCountsUptoRow.holds Try.pinned (OpenSpec.upto chipCountsSpec)

/-- 'casematelaw07.ChipOnce', WHERE WHAT IT READS IS OF BULK AT MOST 1048576: true; the input reads as it did. -/
def chipOnceUptoRow : OpenClaim := { program := "ytgmdagjnigkaaaa", sum := "bd27b62e38cb3aecdaa87b077d74f05c18ef4340c682b50d63dfc61c0393d62b", func := "casemate/casematelaw07.ChipOnce", spec := "chipOnce", unfollowed := true, recurses := true, plainKeys := false, apart := false, narrowed := true }
def ChipOnceUptoSaid : Prop := chipOnceUptoRow.holds Try.pinned (OpenSpec.upto chipOnceSpec)

/-- 'casematelaw07.ChipCuts', WHERE WHAT IT READS IS OF BULK AT MOST 1048576: true; the input reads as it did. -/
def chipCutsUptoRow : OpenClaim := { program := "ytgmdagjnigkaaaa", sum := "bd27b62e38cb3aecdaa87b077d74f05c18ef4340c682b50d63dfc61c0393d62b", func := "casemate/casematelaw07.ChipCuts", spec := "chipCuts", unfollowed := true, recurses := true, plainKeys := false, apart := false, narrowed := true }
def ChipCutsUptoSaid : Prop := chipCutsUptoRow.holds Try.pinned (OpenSpec.upto chipCutsSpec)

/-- 'casematelaw07.ChipKeeps', WHERE WHAT IT READS IS OF BULK AT MOST 1048576: true; the input reads as it did. -/
def chipKeepsUptoRow : OpenClaim := { program := "ytgmdagjnigkaaaa", sum := "bd27b62e38cb3aecdaa87b077d74f05c18ef4340c682b50d63dfc61c0393d62b", func := "casemate/casematelaw07.ChipKeeps", spec := "chipKeeps", unfollowed := true, recurses := true, plainKeys := false, apart := false, narrowed := true }
def ChipKeepsUptoSaid : Prop := chipKeepsUptoRow.holds Try.pinned (OpenSpec.upto chipKeepsSpec)

/-- 'casematelaw10.AttachOrder', WHERE WHAT IT READS IS OF BULK AT MOST 1048576: true; the input reads as it did. -/
def attachOrderUptoRow : OpenClaim := { program := "ytgmdagjnigkaaaa", sum := "bd27b62e38cb3aecdaa87b077d74f05c18ef4340c682b50d63dfc61c0393d62b", func := "casemate/casematelaw10.AttachOrder", spec := "attachOrder", unfollowed := true, recurses := true, plainKeys := false, apart := false, narrowed := true }
def AttachOrderUptoSaid : Prop := attachOrderUptoRow.holds Try.pinned (OpenSpec.upto attachOrderSpec)

/-- 'casematelaw07.ChipFlips', WHERE WHAT IT READS IS OF BULK AT MOST 1048576: true; the input reads as it did. -/
def chipFlipsUptoRow : OpenClaim := { program := "ytgmdagjnigkaaaa", sum := "bd27b62e38cb3aecdaa87b077d74f05c18ef4340c682b50d63dfc61c0393d62b", func := "casemate/casematelaw07.ChipFlips", spec := "chipFlips", unfollowed := true, recurses := true, plainKeys := false, apart := false, narrowed := true }
def ChipFlipsUptoSaid : Prop := chipFlipsUptoRow.holds Try.pinned (OpenSpec.upto chipFlipsSpec)

/-- 'casematelaw07.ChipDoes', WHERE WHAT IT READS IS OF BULK AT MOST 1048576: true; the input reads as it did. -/
def chipDoesUptoRow : OpenClaim := { program := "ytgmdagjnigkaaaa", sum := "bd27b62e38cb3aecdaa87b077d74f05c18ef4340c682b50d63dfc61c0393d62b", func := "casemate/casematelaw07.ChipDoes", spec := "chipDoes", unfollowed := true, recurses := true, plainKeys := false, apart := false, narrowed := true }
def ChipDoesUptoSaid : Prop := chipDoesUptoRow.holds Try.pinned (OpenSpec.upto chipDoesSpec)

/-- 'casematelaw07.ChipNil', WHERE WHAT IT READS IS OF BULK AT MOST 1048576: true; the input reads as it did. -/
def chipNilUptoRow : OpenClaim := { program := "ytgmdagjnigkaaaa", sum := "bd27b62e38cb3aecdaa87b077d74f05c18ef4340c682b50d63dfc61c0393d62b", func := "casemate/casematelaw07.ChipNil", spec := "chipNil", unfollowed := true, recurses := true, plainKeys := false, apart := false, narrowed := true }
def ChipNilUptoSaid : Prop := chipNilUptoRow.holds Try.pinned (OpenSpec.upto chipNilSpec)

end Rows
end Go.Proofs.Ytgmdagjnigkaaaa
