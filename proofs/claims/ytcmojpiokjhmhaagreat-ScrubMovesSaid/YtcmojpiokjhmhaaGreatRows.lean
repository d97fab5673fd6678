/-
  No cell of these rows narrows 'for every input' (looked for: loops, veiled, ifaces, maps, wideKeys, modest, calm, conditions, laid).
  DERIVED. THE GIVEN ROWS OF THIS SEAT. 5 by the template 'for every input the law returns true; each argument reads behind the call as it read before'; 0 by the template 'total and deterministic' (their statements: YtcmojpiokjhmhaaGreatTotals.lean).
  GIVEN WITH THE SEED: the statements are not yours to turn. If you find one false, say at which input.
  Laid BY PROGRAM, IN A SANDBOX (cutbox-rows.mjs): the forced cells as the released guide's own fill.sh prints them over the translation e9b74a53694ccde5… (all of the seat's roots in one cut). By AI agents, Wed Nov 11 2026. No macro, syntax, notation, axiom, sorry.
-/
import Derived.Test.YtcmojpiokjhmhaaGreatChecked
import GoSem.Claim
import GoSem.ClaimJoined
import GoSem.ClaimMapViews
import Derived.JoinedTies
import Derived.KernelRfl
namespace Go.Proofs.YtcmojpiokjhmhaaGreat
/- THE CELL 'sum', in the pinned program and in every row, IS THE sha256 OF THE DUMP (.gsa) THAT YtcmojpiokjhmhaaGreatProg.lean LOADS. Nothing in Lean hashes anything: it is a label: what it is worth is what the hold of that sum in a sandbox is worth. -/
noncomputable def Tryz.pinned : Pinned := { name := "ytcmojpiokjhmhaagreat", sum := "e9b74a53694ccde5e7eb6eff1be53e141510011fd61f8a024667a3f190257b71", checked := Tryz.checked }
namespace Rows
def none {H : Type} : Left H := { results := [], args := [] }

/-- 'casematelaw11.StoreDoes': WHATEVER THE INPUT: true; the input reads as it did. -/
def storeDoesSpec : ChangeSpec := { name := "storeDoes", fn := fun _ => fun
  | [d1, d2, d3, d4] => { results := [.lit (.bool true)], args := [d1, d2, d3, d4] }
  | _ => none }
def storeDoesRow : OpenClaim := { program := "ytcmojpiokjhmhaagreat", sum := "e9b74a53694ccde5e7eb6eff1be53e141510011fd61f8a024667a3f190257b71", func := "casemate/casematelaw11.StoreDoes", spec := "storeDoes", unfollowed := true, recurses := true, plainKeys := false, apart := false }
def StoreDoesSaid : Prop := storeDoesRow.holds Tryz.pinned (OpenSpec.ofChange storeDoesSpec)

/-- ITS FALSE NEIGHBOUR: 'it returns false'. Refute it at one input. -/
def storeDoesWrong : ChangeSpec := { name := "storeDoes", fn := fun _ => fun
  | [d1, d2, d3, d4] => { results := [.lit (.bool false)], args := [d1, d2, d3, d4] }
  | _ => none }
def StoreDoesWrongFalsely : Prop := storeDoesRow.holds Tryz.pinned (OpenSpec.ofChange storeDoesWrong)

/-- 'casematelaw12.ScrubKeeps': WHATEVER THE INPUT: true; the input reads as it did. -/
def scrubKeepsSpec : ChangeSpec := { name := "scrubKeeps", fn := fun _ => fun
  | [d1, d2, d3, d4] => { results := [.lit (.bool true)], args := [d1, d2, d3, d4] }
  | _ => none }
def scrubKeepsRow : OpenClaim := { program := "ytcmojpiokjhmhaagreat", sum := "e9b74a53694ccde5e7eb6eff1be53e141510011fd61f8a024667a3f190257b71", func := "casemate/casematelaw12.ScrubKeeps", spec := "scrubKeeps", unfollowed := true, recurses := true, plainKeys := false, apart := false }
def ScrubKeepsSaid : Prop := scrubKeepsRow.holds Tryz.pinned (OpenSpec.ofChange scrubKeepsSpec)

/-- ITS FALSE NEIGHBOUR: 'it returns false'. Refute it at one input. -/
def scrubKeepsWrong : ChangeSpec := { name := "scrubKeeps", fn := fun _ => fun
  | [d1, d2, d3, d4] => { results := [.lit (.bool false)], args := [d1, d2, d3, d4] }
  | _ => none }
def ScrubKeepsWrongFalsely : Prop := scrubKeepsRow.holds Tryz.pinned (OpenSpec.ofChange scrubKeepsWrong)

/-- 'casematelaw12.ScrubWorn': WHATEVER THE INPUT: true; the input reads as it did. -/
def scrubWornSpec : ChangeSpec := { name := "scrubWorn", fn := fun _ => fun
  | [d1, d2, d3, d4] => { results := [.lit (.bool true)], args := [d1, d2, d3, d4] }
  | _ => none }
def scrubWornRow : OpenClaim := { program := "ytcmojpiokjhmhaagreat", sum := "e9b74a53694ccde5e7eb6eff1be53e141510011fd61f8a024667a3f190257b71", func := "casemate/casematelaw12.ScrubWorn", spec := "scrubWorn", unfollowed := true, recurses := true, plainKeys := false, apart := false }
def ScrubWornSaid : Prop := scrubWornRow.holds Tryz.pinned (OpenSpec.ofChange scrubWornSpec)

/-- ITS FALSE NEIGHBOUR: 'it returns false'. Refute it at one input. -/
def scrubWornWrong : ChangeSpec := { name := "scrubWorn", fn := fun _ => fun
  | [d1, d2, d3, d4] => { results := [.lit (.bool false)], args := [d1, d2, d3, d4] }
  | _ => none }
def ScrubWornWrongFalsely : Prop := scrubWornRow.holds Tryz.pinned (OpenSpec.ofChange scrubWornWrong)

/-- 'casematelaw12.ScrubCuts': WHATEVER THE INPUT: true; the input reads as it did. -/
def scrubCutsSpec : ChangeSpec := { name := "scrubCuts", fn := fun _ => fun
  | [d1, d2, d3, d4] => { results := [.lit (.bool true)], args := [d1, d2, d3, d4] }
  | _ => none }
def scrubCutsRow : OpenClaim := { program := "ytcmojpiokjhmhaagreat", sum := "e9b74a53694ccde5e7eb6eff1be53e141510011fd61f8a024667a3f190257b71", func := "casemate/casematelaw12.ScrubCuts", spec := "scrubCuts", unfollowed := true, recurses := true, plainKeys := false, apart := false }
def ScrubCutsSaid : Prop := scrubCutsRow.holds Tryz.pinned (OpenSpec.ofChange scrubCutsSpec)

/-- ITS FALSE NEIGHBOUR: 'it returns false'. Refute it at one input. -/
def scrubCutsWrong : ChangeSpec := { name := "scrubCuts", fn := fun _ => fun
  | [d1, d2, d3, d4] => { results := [.lit (.bool false)], args := [d1, d2, d3, d4] }
  | _ => none }
def ScrubCutsWrongFalsely : Prop := scrubCutsRow.holds Tryz.pinned (OpenSpec.ofChange scrubCutsWrong)

/-- 'casematelaw12.ScrubMoves': WHATEVER THE INPUT: true; the input reads as it did. -/
def scrubMovesSpec : ChangeSpec := { name := "scrubMoves", fn := fun _ => fun
  | [d1, d2, d3] => { results := [.lit (.bool true)], args := [d1, d2, d3] }
  | _ => none }
def scrubMovesRow : OpenClaim := { program := "ytcmojpiokjhmhaagreat", sum := "e9b74a53694ccde5e7eb6eff1be53e141510011fd61f8a024667a3f190257b71", func := "casemate/casematelaw12.ScrubMoves", spec := "scrubMoves", unfollowed := true, recurses := true, plainKeys := false, apart := false }
def ScrubMovesSaid : Prop := scrubMovesRow.holds Tryz.pinned (OpenSpec.ofChange scrubMovesSpec)

/-- ITS FALSE NEIGHBOUR: 'it returns false'. Refute it at one input. -/
def scrubMovesWrong : ChangeSpec := { name := "scrubMoves", fn := fun _ => fun
  | [d1, d2, d3] => { results := [.lit (.bool false)], args := [d1, d2, d3] }
  | _ => none }
def ScrubMovesWrongFalsely : Prop := scrubMovesRow.holds Tryz.pinned (OpenSpec.ofChange scrubMovesWrong)

/- THE SECOND FORM. 'bulk': how many values and letters a reading holds, each counted each time it is reached (what is shared counts as often as it is met; a slice's spare places count too). A statement '..UptoSaid' is the law's where the arguments, and the package variables that the reading takes, are together of bulk at most 1048576: NARROWER than '..Said'. Prove '..Said' where nothing that the law and all that it calls make is longer than what came in: it says more and counts as full. Else prove '..UptoSaid'. A law counts once. -/
mutual
def uptoBulk {H : Type} : DataW H → Nat
  | .lit (.string bytes) => bytes.length + 1
  | .lit _ => 1
  | .nil => 1
  | .ptr d => uptoBulk d + 1
  | .slice elems spare => uptoBulkAll elems + uptoBulkAll spare + 1
  | .agg parts => uptoBulkAll parts + 1
  | .iface _ d => uptoBulk d + 1
  | .map entries => uptoBulkEntries entries + 1
  | .held _ => 1
def uptoBulkAll {H : Type} : List (DataW H) → Nat
  | [] => 0
  | d :: r => uptoBulk d + uptoBulkAll r
def uptoBulkEntries {H : Type} : List (Lit × DataW H) → Nat
  | [] => 0
  | x :: r => uptoBulkEntry x + uptoBulkEntries r
def uptoBulkEntry {H : Type} : Lit × DataW H → Nat
  | (.string bytes, d) => bytes.length + uptoBulk d + 1
  | (_, d) => uptoBulk d + 1
 end
def uptoSmall : (H : Type) → List (DataW H) → Bool := fun _ ds => decide (uptoBulkAll ds ≤ 1048576)
def OpenSpec.upto (s : _root_.Go.ChangeSpec) : _root_.Go.OpenSpec := { _root_.Go.OpenSpec.ofChange s with cond := some uptoSmall }

/-- 'casematelaw11.StoreDoes', WHERE WHAT IT READS IS OF BULK AT MOST 1048576: true; the input reads as it did. -/
def storeDoesUptoRow : OpenClaim := { program := "ytcmojpiokjhmhaagreat", sum := "e9b74a53694ccde5e7eb6eff1be53e141510011fd61f8a024667a3f190257b71", func := "casemate/casematelaw11.StoreDoes", spec := "storeDoes", unfollowed := true, recurses := true, plainKeys := false, apart := false, narrowed := true }
def StoreDoesUptoSaid : Prop := storeDoesUptoRow.holds Tryz.pinned (OpenSpec.upto storeDoesSpec)

/-- 'casematelaw12.ScrubKeeps', WHERE WHAT IT READS IS OF BULK AT MOST 1048576: true; the input reads as it did. -/
def scrubKeepsUptoRow : OpenClaim := { program := "ytcmojpiokjhmhaagreat", sum := "e9b74a53694ccde5e7eb6eff1be53e141510011fd61f8a024667a3f190257b71", func := "casemate/casematelaw12.ScrubKeeps", spec := "scrubKeeps", unfollowed := true, recurses := true, plainKeys := false, apart := false, narrowed := true }
def ScrubKeepsUptoSaid : Prop := scrubKeepsUptoRow.holds Tryz.pinned (OpenSpec.upto scrubKeepsSpec)

/-- 'casematelaw12.ScrubWorn', WHERE WHAT IT READS IS OF BULK AT MOST 1048576: true; the input reads as it did. -/
def scrubWornUptoRow : OpenClaim := { program := "ytcmojpiokjhmhaagreat", sum := "e9b74a53694ccde5e7eb6eff1be53e141510011fd61f8a024667a3f190257b71", func := "casemate/casematelaw12.ScrubWorn", spec := "scrubWorn", unfollowed := true, recurses := true, plainKeys := false, apart := false, narrowed := true }
def ScrubWornUptoSaid : Prop := scrubWornUptoRow.holds Tryz.pinned (OpenSpec.upto scrubWornSpec)

/-- 'casematelaw12.ScrubCuts', WHERE WHAT IT READS IS OF BULK AT MOST 1048576: true; the input reads as it did. -/
def scrubCutsUptoRow : OpenClaim := { program := "ytcmojpiokjhmhaagreat", sum := "e9b74a53694ccde5e7eb6eff1be53e141510011fd61f8a024667a3f190257b71", func := "casemate/casematelaw12.ScrubCuts", spec := "scrubCuts", unfollowed := true, recurses := true, plainKeys := false, apart := false, narrowed := true }
def ScrubCutsUptoSaid : Prop := scrubCutsUptoRow.holds Tryz.pinned (OpenSpec.upto scrubCutsSpec)

/-- 'casematelaw12.ScrubMoves', WHERE WHAT IT READS IS OF BULK AT MOST 1048576: true; the input reads as it did. -/
def scrubMovesUptoRow : OpenClaim := { program := "ytcmojpiokjhmhaagreat", sum := "e9b74a53694ccde5e7eb6eff1be53e141510011fd61f8a024667a3f190257b71", func := "casemate/casematelaw12.ScrubMoves", spec := "scrubMoves", unfollowed := true, recurses := true, plainKeys := false, apart := false, narrowed := true }
def ScrubMovesUptoSaid : Prop := scrubMovesUptoRow.holds Tryz.pinned (OpenSpec.upto scrubMovesSpec)

end Rows
end Go.Proofs.YtcmojpiokjhmhaaGreat
