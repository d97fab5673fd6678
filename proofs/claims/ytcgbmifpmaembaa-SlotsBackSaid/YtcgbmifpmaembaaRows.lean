/-
  No cell of these rows narrows 'for every input' (looked for: loops, veiled, ifaces, maps, wideKeys, modest, calm, conditions, laid).
  DERIVED. THE GIVEN ROWS OF THIS SEAT. 5 by the template 'for every input the law returns true; each argument reads behind the call as it read before'; 0 by the template 'total and deterministic' (their statements: YtcgbmifpmaembaaTotals.lean).
  GIVEN WITH THE SEED: the statements are not yours to turn. If you find one false, say at which input.
  Laid BY PROGRAM, IN A SANDBOX (cutbox-rows.mjs): the forced cells as the released guide's own fill.sh prints them over the translation 1f2e03c7557c4767… (all of the seat's roots in one cut). By AI agents, Wed Nov 11 2026. No macro, syntax, notation, axiom, sorry.
-/
import Derived.Test.YtcgbmifpmaembaaChecked
import GoSem.Claim
import GoSem.ClaimJoined
import GoSem.ClaimMapViews
import Derived.JoinedTies
import Derived.KernelRfl
namespace Go.Proofs.Ytcgbmifpmaembaa
/- THE CELL 'sum', in the pinned program and in every row, IS THE sha256 OF THE DUMP (.gsa) THAT YtcgbmifpmaembaaProg.lean LOADS. Nothing in Lean hashes anything: it is a label: what it is worth is what the hold of that sum in a sandbox is worth. -/
noncomputable def Try.pinned : Pinned := { name := "ytcgbmifpmaembaa", sum := "1f2e03c7557c4767ab3afa6161d132bdf0ec19097da7c988267012b1309dec89", checked := Try.checked }
namespace Rows
def none {H : Type} : Left H := { results := [], args := [] }

/-- 'casematelaw22.SlotsFirst': WHATEVER THE INPUT: true; the input reads as it did. -/
def slotsFirstSpec : ChangeSpec := { name := "slotsFirst", fn := fun _ => fun
  | [d] => { results := [.lit (.bool true)], args := [d] }
  | _ => none }
def slotsFirstRow : OpenClaim := { program := "ytcgbmifpmaembaa", sum := "1f2e03c7557c4767ab3afa6161d132bdf0ec19097da7c988267012b1309dec89", func := "casemate/casematelaw22.SlotsFirst", spec := "slotsFirst", apart := false }
def SlotsFirstSaid : Prop := slotsFirstRow.holds Try.pinned (OpenSpec.ofChange slotsFirstSpec)

/-- ITS FALSE NEIGHBOUR: 'it returns false'. Refute it at one input. -/
def slotsFirstWrong : ChangeSpec := { name := "slotsFirst", fn := fun _ => fun
  | [d] => { results := [.lit (.bool false)], args := [d] }
  | _ => none }
def SlotsFirstWrongFalsely : Prop := slotsFirstRow.holds Try.pinned (OpenSpec.ofChange slotsFirstWrong)

/-- 'casematelaw22.SlotsTell': WHATEVER THE INPUT: true; the input reads as it did. -/
def slotsTellSpec : ChangeSpec := { name := "slotsTell", fn := fun _ => fun
  | [d1, d2] => { results := [.lit (.bool true)], args := [d1, d2] }
  | _ => none }
def slotsTellRow : OpenClaim := { program := "ytcgbmifpmaembaa", sum := "1f2e03c7557c4767ab3afa6161d132bdf0ec19097da7c988267012b1309dec89", func := "casemate/casematelaw22.SlotsTell", spec := "slotsTell", apart := false }
def SlotsTellSaid : Prop := slotsTellRow.holds Try.pinned (OpenSpec.ofChange slotsTellSpec)

/-- ITS FALSE NEIGHBOUR: 'it returns false'. Refute it at one input. -/
def slotsTellWrong : ChangeSpec := { name := "slotsTell", fn := fun _ => fun
  | [d1, d2] => { results := [.lit (.bool false)], args := [d1, d2] }
  | _ => none }
def SlotsTellWrongFalsely : Prop := slotsTellRow.holds Try.pinned (OpenSpec.ofChange slotsTellWrong)

/-- 'casematelaw22.SlotsStays': WHATEVER THE INPUT: true; the input reads as it did. -/
def slotsStaysSpec : ChangeSpec := { name := "slotsStays", fn := fun _ => fun
  | [d1, d2, d3, d4] => { results := [.lit (.bool true)], args := [d1, d2, d3, d4] }
  | _ => none }
def slotsStaysRow : OpenClaim := { program := "ytcgbmifpmaembaa", sum := "1f2e03c7557c4767ab3afa6161d132bdf0ec19097da7c988267012b1309dec89", func := "casemate/casematelaw22.SlotsStays", spec := "slotsStays", apart := false }
def SlotsStaysSaid : Prop := slotsStaysRow.holds Try.pinned (OpenSpec.ofChange slotsStaysSpec)

/-- ITS FALSE NEIGHBOUR: 'it returns false'. Refute it at one input. -/
def slotsStaysWrong : ChangeSpec := { name := "slotsStays", fn := fun _ => fun
  | [d1, d2, d3, d4] => { results := [.lit (.bool false)], args := [d1, d2, d3, d4] }
  | _ => none }
def SlotsStaysWrongFalsely : Prop := slotsStaysRow.holds Try.pinned (OpenSpec.ofChange slotsStaysWrong)

/-- 'casematelaw22.SlotsParse': WHATEVER THE INPUT: true; the input reads as it did. -/
def slotsParseSpec : ChangeSpec := { name := "slotsParse", fn := fun _ => fun
  | [d] => { results := [.lit (.bool true)], args := [d] }
  | _ => none }
def slotsParseRow : OpenClaim := { program := "ytcgbmifpmaembaa", sum := "1f2e03c7557c4767ab3afa6161d132bdf0ec19097da7c988267012b1309dec89", func := "casemate/casematelaw22.SlotsParse", spec := "slotsParse", apart := false }
def SlotsParseSaid : Prop := slotsParseRow.holds Try.pinned (OpenSpec.ofChange slotsParseSpec)

/-- ITS FALSE NEIGHBOUR: 'it returns false'. Refute it at one input. -/
def slotsParseWrong : ChangeSpec := { name := "slotsParse", fn := fun _ => fun
  | [d] => { results := [.lit (.bool false)], args := [d] }
  | _ => none }
def SlotsParseWrongFalsely : Prop := slotsParseRow.holds Try.pinned (OpenSpec.ofChange slotsParseWrong)

/-- 'casematelaw22.SlotsBack': WHATEVER THE INPUT: true; the input reads as it did. -/
def slotsBackSpec : ChangeSpec := { name := "slotsBack", fn := fun _ => fun
  | [d] => { results := [.lit (.bool true)], args := [d] }
  | _ => none }
def slotsBackRow : OpenClaim := { program := "ytcgbmifpmaembaa", sum := "1f2e03c7557c4767ab3afa6161d132bdf0ec19097da7c988267012b1309dec89", func := "casemate/casematelaw22.SlotsBack", spec := "slotsBack", apart := false }
def SlotsBackSaid : Prop := slotsBackRow.holds Try.pinned (OpenSpec.ofChange slotsBackSpec)

/-- ITS FALSE NEIGHBOUR: 'it returns false'. Refute it at one input. -/
def slotsBackWrong : ChangeSpec := { name := "slotsBack", fn := fun _ => fun
  | [d] => { results := [.lit (.bool false)], args := [d] }
  | _ => none }
def SlotsBackWrongFalsely : Prop := slotsBackRow.holds Try.pinned (OpenSpec.ofChange slotsBackWrong)

/- THE SECOND FORM. 'bulk': how many values and letters a reading holds, each counted each time it is reached (what is shared counts as often as it is met; a slice's spare places count too). A statement '..UptoSaid' is the law's where the arguments, and the package variables that the reading takes, are together of bulk at most 1048576: NARROWER than '..Said'. Prove '..Said' where nothing that the law and all that it calls make is longer than what came in: it says more and counts as full. Else prove '..UptoSaid'. A law counts once. -/
mutual
def uptoBulk {H : Type} : DataW H → Nat
  | .lit (.string bytes) => bytes.length + 1
  | .lit _ => 1
  | .nil => 1
  | .ptr d => uptoBulk d + 1
  | .slice elems spare => uptoBulkAll elems + uptoBulkAll spare + 1
  | .agg parts => uptoBulkAll parts + 1
  | .iface _ d => uptoBulk d + 1
  | .map entries => uptoBulkEntries entries + 1
  | .held _ => 1
def uptoBulkAll {H : Type} : List (DataW H) → Nat
  | [] => 0
  | d :: r => uptoBulk d + uptoBulkAll r
def uptoBulkEntries {H : Type} : List (Lit × DataW H) → Nat
  | [] => 0
  | x :: r => uptoBulkEntry x + uptoBulkEntries r
def uptoBulkEntry {H : Type} : Lit × DataW H → Nat
  | (.string bytes, d) => bytes.length + uptoBulk d + 1
  | (_, d) => uptoBulk d + 1
 end
def uptoSmall : (H : Type) → List (DataW H) → Bool := fun _ ds => decide (uptoBulkAll ds ≤ 1048576)
def OpenSpec.upto (s : _root_.Go.ChangeSpec) : _root_.Go.OpenSpec := { _root_.Go.OpenSpec.ofChange s with cond := some uptoSmall }

/-- 'casematelaw22.SlotsFirst', WHERE WHAT IT READS IS OF BULK AT MOST 1048576: true; the input reads as it did. -/
def slotsFirstUptoRow : OpenClaim := { program := "ytcgbmifpmaembaa", sum := "1f2e03c7557c4767ab3afa6161d132bdf0ec19097da7c988267012b1309dec89", func := "casemate/casematelaw22.SlotsFirst", spec := "slotsFirst", apart := false, narrowed := true }
def SlotsFirstUptoSaid : Prop := slotsFirstUptoRow.holds Try.pinned (OpenSpec.upto slotsFirstSpec)

/-- 'casematelaw22.SlotsTell', WHERE WHAT IT READS IS OF BULK AT MOST 1048576: true; the input reads as it did. -/
def slotsTellUptoRow : OpenClaim := { program := "ytcgbmifpmaembaa", sum := "1f2e03c7557c4767ab3afa6161d132bdf0ec19097da7c988267012b1309dec89", func := "casemate/casematelaw22.SlotsTell", spec := "slotsTell", apart := false, narrowed := true }
def SlotsTellUptoSaid : Prop := slotsTellUptoRow.holds Try.pinned (OpenSpec.upto slotsTellSpec)

/-- 'casematelaw22.SlotsStays', WHERE WHAT IT READS IS OF BULK AT MOST 1048576: true; the input reads as it did. -/
def slotsStaysUptoRow : OpenClaim := { program := "ytcgbmifpmaembaa", sum := "1f2e03c7557c4767ab3afa6161d132bdf0ec19097da7c988267012b1309dec89", func := "casemate/casematelaw22.SlotsStays", spec := "slotsStays", apart := false, narrowed := true }
def SlotsStaysUptoSaid : Prop := slotsStaysUptoRow.holds Try.pinned (OpenSpec.upto slotsStaysSpec)

/-- 'casematelaw22.SlotsParse', WHERE WHAT IT READS IS OF BULK AT MOST 1048576: true; the input reads as it did. -/
def slotsParseUptoRow : OpenClaim := { program := "ytcgbmifpmaembaa", sum := "1f2e03c7557c4767ab3afa6161d132bdf0ec19097da7c988267012b1309dec89", func := "casemate/casematelaw22.SlotsParse", spec := "slotsParse", apart := false, narrowed := true }
def SlotsParseUptoSaid : Prop := slotsParseUptoRow.holds Try.pinned (OpenSpec.upto slotsParseSpec)

/-- 'casematelaw22.SlotsBack', WHERE WHAT IT READS IS OF BULK AT MOST 1048576: true; the input reads as it did. -/
def slotsBackUptoRow : OpenClaim := { program := "ytcgbmifpmaembaa", sum := "1f2e03c7557c4767ab3afa6161d132bdf0ec19097da7c988267012b1309dec89", func := "casemate/casematelaw22.SlotsBack", spec := "slotsBack", apart := false, narrowed := true }
def SlotsBackUptoSaid : Prop := slotsBackUptoRow.holds Try.pinned (OpenSpec.upto slotsBackSpec)

end Rows
end Go.Proofs.Ytcgbmifpmaembaa
