/-
  No cell of these rows narrows 'for every input' (looked for: loops, veiled, ifaces, maps, wideKeys, modest, calm, conditions, laid).
  DERIVED. THE GIVEN ROWS OF THIS SEAT. 10 by the template 'for every input the law returns true; each argument reads behind the call as it read before'; 0 by the template 'total and deterministic' (their statements: YtcedojacbhnbiaaGreatTotals.lean).
  GIVEN WITH THE SEED: the statements are not yours to turn. If you find one false, say at which input.
  Laid BY PROGRAM, IN A SANDBOX (cutbox-rows.mjs): the forced cells as the released guide's own fill.sh prints them over the translation d3b638ea40563c89… (all of the seat's roots in one cut). By AI agents, Wed Nov 11 2026. No macro, syntax, notation, axiom, sorry.
-/
import Derived.Test.YtcedojacbhnbiaaGreatChecked
import GoSem.Claim
import GoSem.ClaimJoined
import GoSem.ClaimMapViews
import Derived.JoinedTies
import Derived.KernelRfl
namespace Go.Proofs.YtcedojacbhnbiaaGreat
/- THE CELL 'sum', in the pinned program and in every row, IS THE sha256 OF THE DUMP (.gsa) THAT YtcedojacbhnbiaaGreatProg.lean LOADS. Nothing in Lean hashes anything: it is a label: what it is worth is what the hold of that sum in a sandbox is worth. -/
noncomputable def Tryz.pinned : Pinned := { name := "ytcedojacbhnbiaagreat", sum := "d3b638ea40563c8992c9710f0b50a2b3cc596d689a4b4599e2863b53db7e0ffe", checked := Tryz.checked }
namespace Rows
def none {H : Type} : Left H := { results := [], args := [] }

/-- 'casematelaw24.BootSound': WHATEVER THE INPUT: true; the input reads as it did. -/
def bootSoundSpec : ChangeSpec := { name := "bootSound", fn := fun _ => fun
  | [d1, d2, d3, d4] => { results := [.lit (.bool true)], args := [d1, d2, d3, d4] }
  | _ => none }
def bootSoundRow : OpenClaim := { program := "ytcedojacbhnbiaagreat", sum := "d3b638ea40563c8992c9710f0b50a2b3cc596d689a4b4599e2863b53db7e0ffe", func := "casemate/casematelaw24.BootSound", spec := "bootSound", inPlace := ["math/bits.Sub64", "math/bits.Add64", "sync/atomic.LoadUint32", "(*internal/sync.Mutex).Lock", "internal/race.Disable", "sync/atomic.CompareAndSwapInt32", "internal/race.Enable", "internal/race.Acquire", "(*internal/sync.Mutex).lockSlow", "internal/sync.runtime_canSpin", "internal/sync.runtime_doSpin", "internal/sync.throw", "internal/sync.runtime_nanotime", "internal/sync.runtime_SemacquireMutex", "sync/atomic.AddInt32", "(*internal/sync.Mutex).Unlock", "internal/race.ReleaseMerge", "(*internal/sync.Mutex).unlockSlow", "internal/sync.fatal", "internal/sync.runtime_Semrelease", "sync/atomic.StoreUint32", "sync/atomic.AddInt64", "sync/atomic.LoadInt64"], unfollowed := true, recurses := true, plainKeys := false, apart := false }
def BootSoundSaid : Prop := bootSoundRow.holds Tryz.pinned (OpenSpec.ofChange bootSoundSpec)

/-- ITS FALSE NEIGHBOUR: 'it returns false'. Refute it at one input. -/
def bootSoundWrong : ChangeSpec := { name := "bootSound", fn := fun _ => fun
  | [d1, d2, d3, d4] => { results := [.lit (.bool false)], args := [d1, d2, d3, d4] }
  | _ => none }
def BootSoundWrongFalsely : Prop := bootSoundRow.holds Tryz.pinned (OpenSpec.ofChange bootSoundWrong)

/-- 'casematelaw24.BootLebs': WHATEVER THE INPUT: true; the input reads as it did. -/
def bootLebsSpec : ChangeSpec := { name := "bootLebs", fn := fun _ => fun
  | [d1, d2, d3, d4] => { results := [.lit (.bool true)], args := [d1, d2, d3, d4] }
  | _ => none }
def bootLebsRow : OpenClaim := { program := "ytcedojacbhnbiaagreat", sum := "d3b638ea40563c8992c9710f0b50a2b3cc596d689a4b4599e2863b53db7e0ffe", func := "casemate/casematelaw24.BootLebs", spec := "bootLebs", inPlace := ["math/bits.Sub64", "math/bits.Add64", "sync/atomic.LoadUint32", "(*internal/sync.Mutex).Lock", "internal/race.Disable", "sync/atomic.CompareAndSwapInt32", "internal/race.Enable", "internal/race.Acquire", "(*internal/sync.Mutex).lockSlow", "internal/sync.runtime_canSpin", "internal/sync.runtime_doSpin", "internal/sync.throw", "internal/sync.runtime_nanotime", "internal/sync.runtime_SemacquireMutex", "sync/atomic.AddInt32", "(*internal/sync.Mutex).Unlock", "internal/race.ReleaseMerge", "(*internal/sync.Mutex).unlockSlow", "internal/sync.fatal", "internal/sync.runtime_Semrelease", "sync/atomic.StoreUint32", "sync/atomic.AddInt64", "sync/atomic.LoadInt64"], unfollowed := true, recurses := true, plainKeys := false, apart := false }
def BootLebsSaid : Prop := bootLebsRow.holds Tryz.pinned (OpenSpec.ofChange bootLebsSpec)

/-- ITS FALSE NEIGHBOUR: 'it returns false'. Refute it at one input. -/
def bootLebsWrong : ChangeSpec := { name := "bootLebs", fn := fun _ => fun
  | [d1, d2, d3, d4] => { results := [.lit (.bool false)], args := [d1, d2, d3, d4] }
  | _ => none }
def BootLebsWrongFalsely : Prop := bootLebsRow.holds Tryz.pinned (OpenSpec.ofChange bootLebsWrong)

/-- 'casematelaw24.BootTries': WHATEVER THE INPUT: true; the input reads as it did. -/
def bootTriesSpec : ChangeSpec := { name := "bootTries", fn := fun _ => fun
  | [d1, d2, d3] => { results := [.lit (.bool true)], args := [d1, d2, d3] }
  | _ => none }
def bootTriesRow : OpenClaim := { program := "ytcedojacbhnbiaagreat", sum := "d3b638ea40563c8992c9710f0b50a2b3cc596d689a4b4599e2863b53db7e0ffe", func := "casemate/casematelaw24.BootTries", spec := "bootTries", inPlace := ["math/bits.Sub64", "math/bits.Add64", "sync/atomic.LoadUint32", "(*internal/sync.Mutex).Lock", "internal/race.Disable", "sync/atomic.CompareAndSwapInt32", "internal/race.Enable", "internal/race.Acquire", "(*internal/sync.Mutex).lockSlow", "internal/sync.runtime_canSpin", "internal/sync.runtime_doSpin", "internal/sync.throw", "internal/sync.runtime_nanotime", "internal/sync.runtime_SemacquireMutex", "sync/atomic.AddInt32", "(*internal/sync.Mutex).Unlock", "internal/race.ReleaseMerge", "(*internal/sync.Mutex).unlockSlow", "internal/sync.fatal", "internal/sync.runtime_Semrelease", "sync/atomic.StoreUint32", "sync/atomic.AddInt64", "sync/atomic.LoadInt64"], unfollowed := true, recurses := true, plainKeys := false, apart := false }
def BootTriesSaid : Prop := bootTriesRow.holds Tryz.pinned (OpenSpec.ofChange bootTriesSpec)

/-- ITS FALSE NEIGHBOUR: 'it returns false'. Refute it at one input. -/
def bootTriesWrong : ChangeSpec := { name := "bootTries", fn := fun _ => fun
  | [d1, d2, d3] => { results := [.lit (.bool false)], args := [d1, d2, d3] }
  | _ => none }
def BootTriesWrongFalsely : Prop := bootTriesRow.holds Tryz.pinned (OpenSpec.ofChange bootTriesWrong)

/-- 'casematelaw24.BootFuse': WHATEVER THE INPUT: true; the input reads as it did. -/
def bootFuseSpec : ChangeSpec := { name := "bootFuse", fn := fun _ => fun
  | [d1, d2, d3, d4] => { results := [.lit (.bool true)], args := [d1, d2, d3, d4] }
  | _ => none }
def bootFuseRow : OpenClaim := { program := "ytcedojacbhnbiaagreat", sum := "d3b638ea40563c8992c9710f0b50a2b3cc596d689a4b4599e2863b53db7e0ffe", func := "casemate/casematelaw24.BootFuse", spec := "bootFuse", inPlace := ["math/bits.Sub64", "math/bits.Add64", "sync/atomic.LoadUint32", "(*internal/sync.Mutex).Lock", "internal/race.Disable", "sync/atomic.CompareAndSwapInt32", "internal/race.Enable", "internal/race.Acquire", "(*internal/sync.Mutex).lockSlow", "internal/sync.runtime_canSpin", "internal/sync.runtime_doSpin", "internal/sync.throw", "internal/sync.runtime_nanotime", "internal/sync.runtime_SemacquireMutex", "sync/atomic.AddInt32", "(*internal/sync.Mutex).Unlock", "internal/race.ReleaseMerge", "(*internal/sync.Mutex).unlockSlow", "internal/sync.fatal", "internal/sync.runtime_Semrelease", "sync/atomic.StoreUint32", "sync/atomic.AddInt64", "sync/atomic.LoadInt64"], unfollowed := true, recurses := true, plainKeys := false, apart := false }
def BootFuseSaid : Prop := bootFuseRow.holds Tryz.pinned (OpenSpec.ofChange bootFuseSpec)

/-- ITS FALSE NEIGHBOUR: 'it returns false'. Refute it at one input. -/
def bootFuseWrong : ChangeSpec := { name := "bootFuse", fn := fun _ => fun
  | [d1, d2, d3, d4] => { results := [.lit (.bool false)], args := [d1, d2, d3, d4] }
  | _ => none }
def BootFuseWrongFalsely : Prop := bootFuseRow.holds Tryz.pinned (OpenSpec.ofChange bootFuseWrong)

/-- 'casematelaw24.BootRefuses': WHATEVER THE INPUT: true; the input reads as it did. -/
def bootRefusesSpec : ChangeSpec := { name := "bootRefuses", fn := fun _ => fun
  | [d1, d2, d3, d4] => { results := [.lit (.bool true)], args := [d1, d2, d3, d4] }
  | _ => none }
def bootRefusesRow : OpenClaim := { program := "ytcedojacbhnbiaagreat", sum := "d3b638ea40563c8992c9710f0b50a2b3cc596d689a4b4599e2863b53db7e0ffe", func := "casemate/casematelaw24.BootRefuses", spec := "bootRefuses", inPlace := ["math/bits.Sub64", "math/bits.Add64", "sync/atomic.LoadUint32", "(*internal/sync.Mutex).Lock", "internal/race.Disable", "sync/atomic.CompareAndSwapInt32", "internal/race.Enable", "internal/race.Acquire", "(*internal/sync.Mutex).lockSlow", "internal/sync.runtime_canSpin", "internal/sync.runtime_doSpin", "internal/sync.throw", "internal/sync.runtime_nanotime", "internal/sync.runtime_SemacquireMutex", "sync/atomic.AddInt32", "(*internal/sync.Mutex).Unlock", "internal/race.ReleaseMerge", "(*internal/sync.Mutex).unlockSlow", "internal/sync.fatal", "internal/sync.runtime_Semrelease", "sync/atomic.StoreUint32", "sync/atomic.AddInt64", "sync/atomic.LoadInt64"], unfollowed := true, recurses := true, plainKeys := false, apart := false }
def BootRefusesSaid : Prop := bootRefusesRow.holds Tryz.pinned (OpenSpec.ofChange bootRefusesSpec)

/-- ITS FALSE NEIGHBOUR: 'it returns false'. Refute it at one input. -/
def bootRefusesWrong : ChangeSpec := { name := "bootRefuses", fn := fun _ => fun
  | [d1, d2, d3, d4] => { results := [.lit (.bool false)], args := [d1, d2, d3, d4] }
  | _ => none }
def BootRefusesWrongFalsely : Prop := bootRefusesRow.holds Tryz.pinned (OpenSpec.ofChange bootRefusesWrong)

/-- 'casematelaw24.BootDoes': WHATEVER THE INPUT: true; the input reads as it did. -/
def bootDoesSpec : ChangeSpec := { name := "bootDoes", fn := fun _ => fun
  | [d1, d2, d3] => { results := [.lit (.bool true)], args := [d1, d2, d3] }
  | _ => none }
def bootDoesRow : OpenClaim := { program := "ytcedojacbhnbiaagreat", sum := "d3b638ea40563c8992c9710f0b50a2b3cc596d689a4b4599e2863b53db7e0ffe", func := "casemate/casematelaw24.BootDoes", spec := "bootDoes", inPlace := ["math/bits.Sub64", "math/bits.Add64", "sync/atomic.LoadUint32", "(*internal/sync.Mutex).Lock", "internal/race.Disable", "sync/atomic.CompareAndSwapInt32", "internal/race.Enable", "internal/race.Acquire", "(*internal/sync.Mutex).lockSlow", "internal/sync.runtime_canSpin", "internal/sync.runtime_doSpin", "internal/sync.throw", "internal/sync.runtime_nanotime", "internal/sync.runtime_SemacquireMutex", "sync/atomic.AddInt32", "(*internal/sync.Mutex).Unlock", "internal/race.ReleaseMerge", "(*internal/sync.Mutex).unlockSlow", "internal/sync.fatal", "internal/sync.runtime_Semrelease", "sync/atomic.StoreUint32", "sync/atomic.AddInt64", "sync/atomic.LoadInt64"], unfollowed := true, recurses := true, plainKeys := false, apart := false }
def BootDoesSaid : Prop := bootDoesRow.holds Tryz.pinned (OpenSpec.ofChange bootDoesSpec)

/-- ITS FALSE NEIGHBOUR: 'it returns false'. Refute it at one input. -/
def bootDoesWrong : ChangeSpec := { name := "bootDoes", fn := fun _ => fun
  | [d1, d2, d3] => { results := [.lit (.bool false)], args := [d1, d2, d3] }
  | _ => none }
def BootDoesWrongFalsely : Prop := bootDoesRow.holds Tryz.pinned (OpenSpec.ofChange bootDoesWrong)

/-- 'casematelaw25.UpdateInstalls': WHATEVER THE INPUT: true; the input reads as it did. -/
def updateInstallsSpec : ChangeSpec := { name := "updateInstalls", fn := fun _ => fun
  | [d1, d2] => { results := [.lit (.bool true)], args := [d1, d2] }
  | _ => none }
def updateInstallsRow : OpenClaim := { program := "ytcedojacbhnbiaagreat", sum := "d3b638ea40563c8992c9710f0b50a2b3cc596d689a4b4599e2863b53db7e0ffe", func := "casemate/casematelaw25.UpdateInstalls", spec := "updateInstalls", inPlace := ["math/bits.Add64", "sync/atomic.LoadUint32", "(*internal/sync.Mutex).Lock", "internal/race.Disable", "sync/atomic.CompareAndSwapInt32", "internal/race.Enable", "internal/race.Acquire", "(*internal/sync.Mutex).lockSlow", "internal/sync.runtime_canSpin", "internal/sync.runtime_doSpin", "internal/sync.throw", "internal/sync.runtime_nanotime", "internal/sync.runtime_SemacquireMutex", "sync/atomic.AddInt32", "(*internal/sync.Mutex).Unlock", "internal/race.ReleaseMerge", "(*internal/sync.Mutex).unlockSlow", "internal/sync.fatal", "internal/sync.runtime_Semrelease", "sync/atomic.StoreUint32", "sync/atomic.AddInt64", "sync/atomic.LoadInt64", "math/bits.Sub64"], unfollowed := true, recurses := true, plainKeys := false, apart := false }
def UpdateInstallsSaid : Prop := updateInstallsRow.holds Tryz.pinned (OpenSpec.ofChange updateInstallsSpec)

/-- ITS FALSE NEIGHBOUR: 'it returns false'. Refute it at one input. -/
def updateInstallsWrong : ChangeSpec := { name := "updateInstalls", fn := fun _ => fun
  | [d1, d2] => { results := [.lit (.bool false)], args := [d1, d2] }
  | _ => none }
def UpdateInstallsWrongFalsely : Prop := updateInstallsRow.holds Tryz.pinned (OpenSpec.ofChange updateInstallsWrong)

/-- 'casematelaw25.UpdateKeeps': WHATEVER THE INPUT: true; the input reads as it did. -/
def updateKeepsSpec : ChangeSpec := { name := "updateKeeps", fn := fun _ => fun
  | [d1, d2, d3] => { results := [.lit (.bool true)], args := [d1, d2, d3] }
  | _ => none }
def updateKeepsRow : OpenClaim := { program := "ytcedojacbhnbiaagreat", sum := "d3b638ea40563c8992c9710f0b50a2b3cc596d689a4b4599e2863b53db7e0ffe", func := "casemate/casematelaw25.UpdateKeeps", spec := "updateKeeps", inPlace := ["math/bits.Add64", "sync/atomic.LoadUint32", "(*internal/sync.Mutex).Lock", "internal/race.Disable", "sync/atomic.CompareAndSwapInt32", "internal/race.Enable", "internal/race.Acquire", "(*internal/sync.Mutex).lockSlow", "internal/sync.runtime_canSpin", "internal/sync.runtime_doSpin", "internal/sync.throw", "internal/sync.runtime_nanotime", "internal/sync.runtime_SemacquireMutex", "sync/atomic.AddInt32", "(*internal/sync.Mutex).Unlock", "internal/race.ReleaseMerge", "(*internal/sync.Mutex).unlockSlow", "internal/sync.fatal", "internal/sync.runtime_Semrelease", "sync/atomic.StoreUint32", "sync/atomic.AddInt64", "sync/atomic.LoadInt64", "math/bits.Sub64"], unfollowed := true, recurses := true, plainKeys := false, apart := false }
def UpdateKeepsSaid : Prop := updateKeepsRow.holds Tryz.pinned (OpenSpec.ofChange updateKeepsSpec)

/-- ITS FALSE NEIGHBOUR: 'it returns false'. Refute it at one input. -/
def updateKeepsWrong : ChangeSpec := { name := "updateKeeps", fn := fun _ => fun
  | [d1, d2, d3] => { results := [.lit (.bool false)], args := [d1, d2, d3] }
  | _ => none }
def UpdateKeepsWrongFalsely : Prop := updateKeepsRow.holds Tryz.pinned (OpenSpec.ofChange updateKeepsWrong)

/-- 'casematelaw25.UpdateBoots': WHATEVER THE INPUT: true; the input reads as it did. -/
def updateBootsSpec : ChangeSpec := { name := "updateBoots", fn := fun _ => fun
  | [d1, d2, d3, d4] => { results := [.lit (.bool true)], args := [d1, d2, d3, d4] }
  | _ => none }
def updateBootsRow : OpenClaim := { program := "ytcedojacbhnbiaagreat", sum := "d3b638ea40563c8992c9710f0b50a2b3cc596d689a4b4599e2863b53db7e0ffe", func := "casemate/casematelaw25.UpdateBoots", spec := "updateBoots", inPlace := ["math/bits.Add64", "sync/atomic.LoadUint32", "(*internal/sync.Mutex).Lock", "internal/race.Disable", "sync/atomic.CompareAndSwapInt32", "internal/race.Enable", "internal/race.Acquire", "(*internal/sync.Mutex).lockSlow", "internal/sync.runtime_canSpin", "internal/sync.runtime_doSpin", "internal/sync.throw", "internal/sync.runtime_nanotime", "internal/sync.runtime_SemacquireMutex", "sync/atomic.AddInt32", "(*internal/sync.Mutex).Unlock", "internal/race.ReleaseMerge", "(*internal/sync.Mutex).unlockSlow", "internal/sync.fatal", "internal/sync.runtime_Semrelease", "sync/atomic.StoreUint32", "sync/atomic.AddInt64", "sync/atomic.LoadInt64", "math/bits.Sub64"], unfollowed := true, recurses := true, plainKeys := false, apart := false }
def UpdateBootsSaid : Prop := updateBootsRow.holds Tryz.pinned (OpenSpec.ofChange updateBootsSpec)

/-- ITS FALSE NEIGHBOUR: 'it returns false'. Refute it at one input. -/
def updateBootsWrong : ChangeSpec := { name := "updateBoots", fn := fun _ => fun
  | [d1, d2, d3, d4] => { results := [.lit (.bool false)], args := [d1, d2, d3, d4] }
  | _ => none }
def UpdateBootsWrongFalsely : Prop := updateBootsRow.holds Tryz.pinned (OpenSpec.ofChange updateBootsWrong)

/-- 'casematelaw25.UpdateCuts': WHATEVER THE INPUT: true; the input reads as it did. -/
def updateCutsSpec : ChangeSpec := { name := "updateCuts", fn := fun _ => fun
  | [d1, d2, d3, d4, d5] => { results := [.lit (.bool true)], args := [d1, d2, d3, d4, d5] }
  | _ => none }
def updateCutsRow : OpenClaim := { program := "ytcedojacbhnbiaagreat", sum := "d3b638ea40563c8992c9710f0b50a2b3cc596d689a4b4599e2863b53db7e0ffe", func := "casemate/casematelaw25.UpdateCuts", spec := "updateCuts", inPlace := ["math/bits.Add64", "sync/atomic.LoadUint32", "(*internal/sync.Mutex).Lock", "internal/race.Disable", "sync/atomic.CompareAndSwapInt32", "internal/race.Enable", "internal/race.Acquire", "(*internal/sync.Mutex).lockSlow", "internal/sync.runtime_canSpin", "internal/sync.runtime_doSpin", "internal/sync.throw", "internal/sync.runtime_nanotime", "internal/sync.runtime_SemacquireMutex", "sync/atomic.AddInt32", "(*internal/sync.Mutex).Unlock", "internal/race.ReleaseMerge", "(*internal/sync.Mutex).unlockSlow", "internal/sync.fatal", "internal/sync.runtime_Semrelease", "sync/atomic.StoreUint32", "sync/atomic.AddInt64", "sync/atomic.LoadInt64", "math/bits.Sub64"], unfollowed := true, recurses := true, plainKeys := false, apart := false }
def UpdateCutsSaid : Prop := updateCutsRow.holds Tryz.pinned (OpenSpec.ofChange updateCutsSpec)

/-- ITS FALSE NEIGHBOUR: 'it returns false'. Refute it at one input. -/
def updateCutsWrong : ChangeSpec := { name := "updateCuts", fn := fun _ => fun
  | [d1, d2, d3, d4, d5] => { results := [.lit (.bool false)], args := [d1, d2, d3, d4, d5] }
  | _ => none }
def UpdateCutsWrongFalsely : Prop := updateCutsRow.holds Tryz.pinned (OpenSpec.ofChange updateCutsWrong)

/- THE SECOND FORM. 'bulk': how many values and letters a reading holds, each counted each time it is reached (what is shared counts as often as it is met; a slice's spare places count too). A statement '..UptoSaid' is the law's where the arguments, and the package variables that the reading takes, are together of bulk at most 1048576: NARROWER than '..Said'. Prove '..Said' where nothing that the law and all that it calls make is longer than what came in: it says more and counts as full. Else prove '..UptoSaid'. A law counts once. -/
mutual
def uptoBulk {H : Type} : DataW H → Nat
  | .lit (.string bytes) => bytes.length + 1
  | .lit _ => 1
  | .nil => 1
  | .ptr d => uptoBulk d + 1
  | .slice elems spare => uptoBulkAll elems + uptoBulkAll spare + 1
  | .agg parts => uptoBulkAll parts + 1
  | .iface _ d => uptoBulk d + 1
  | .map entries => uptoBulkEntries entries + 1
  | .held _ => 1
def uptoBulkAll {H : Type} : List (DataW H) → Nat
  | [] => 0
  | d :: r => uptoBulk d + uptoBulkAll r
def uptoBulkEntries {H : Type} : List (Lit × DataW H) → Nat
  | [] => 0
  | x :: r => uptoBulkEntry x + uptoBulkEntries r
def uptoBulkEntry {H : Type} : Lit × DataW H → Nat
  | (.string bytes, d) => bytes.length + uptoBulk d + 1
  | (_, d) => uptoBulk d + 1
 end
def uptoSmall : (H : Type) → List (DataW H) → Bool := fun _ ds => decide (uptoBulkAll ds ≤ 1048576)
def OpenSpec.upto (s : _root_.Go.ChangeSpec) : _root_.Go.OpenSpec := { _root_.Go.OpenSpec.ofChange s with cond := some uptoSmall }

/-- 'casematelaw24.BootSound', WHERE WHAT IT READS IS OF BULK AT MOST 1048576: true; the input reads as it did. -/
def bootSoundUptoRow : OpenClaim := { program := "ytcedojacbhnbiaagreat", sum := "d3b638ea40563c8992c9710f0b50a2b3cc596d689a4b4599e2863b53db7e0ffe", func := "casemate/casematelaw24.BootSound", spec := "bootSound", inPlace := ["math/bits.Sub64", "math/bits.Add64", "sync/atomic.LoadUint32", "(*internal/sync.Mutex).Lock", "internal/race.Disable", "sync/atomic.CompareAndSwapInt32", "internal/race.Enable", "internal/race.Acquire", "(*internal/sync.Mutex).lockSlow", "internal/sync.runtime_canSpin", "internal/sync.runtime_doSpin", "internal/sync.throw", "internal/sync.runtime_nanotime", "internal/sync.runtime_SemacquireMutex", "sync/atomic.AddInt32", "(*internal/sync.Mutex).Unlock", "internal/race.ReleaseMerge", "(*internal/sync.Mutex).unlockSlow", "internal/sync.fatal", "internal/sync.runtime_Semrelease", "sync/atomic.StoreUint32", "sync/atomic.AddInt64", "sync/atomic.LoadInt64"], unfollowed := true, recurses := true, plainKeys := false, apart := false, narrowed := true }
def BootSoundUptoSaid : Prop := bootSoundUptoRow.holds Tryz.pinned (OpenSpec.upto bootSoundSpec)

/-- 'casematelaw24.BootLebs', WHERE WHAT IT READS IS OF BULK AT MOST 1048576: true; the input reads as it did. -/
def bootLebsUptoRow : OpenClaim := { program := "ytcedojacbhnbiaagreat", sum := "d3b638ea40563c8992c9710f0b50a2b3cc596d689a4b4599e2863b53db7e0ffe", func := "casemate/casematelaw24.BootLebs", spec := "bootLebs", inPlace := ["math/bits.Sub64", "math/bits.Add64", "sync/atomic.LoadUint32", "(*internal/sync.Mutex).Lock", "internal/race.Disable", "sync/atomic.CompareAndSwapInt32", "internal/race.Enable", "internal/race.Acquire", "(*internal/sync.Mutex).lockSlow", "internal/sync.runtime_canSpin", "internal/sync.runtime_doSpin", "internal/sync.throw", "internal/sync.runtime_nanotime", "internal/sync.runtime_SemacquireMutex", "sync/atomic.AddInt32", "(*internal/sync.Mutex).Unlock", "internal/race.ReleaseMerge", "(*internal/sync.Mutex).unlockSlow", "internal/sync.fatal", "internal/sync.runtime_Semrelease", "sync/atomic.StoreUint32", "sync/atomic.AddInt64", "sync/atomic.LoadInt64"], unfollowed := true, recurses := true, plainKeys := false, apart := false, narrowed := true }
def BootLebsUptoSaid : Prop := bootLebsUptoRow.holds Tryz.pinned (OpenSpec.upto bootLebsSpec)

/-- 'casematelaw24.BootTries', WHERE WHAT IT READS IS OF BULK AT MOST 1048576: true; the input reads as it did. -/
def bootTriesUptoRow : OpenClaim := { program := "ytcedojacbhnbiaagreat", sum := "d3b638ea40563c8992c9710f0b50a2b3cc596d689a4b4599e2863b53db7e0ffe", func := "casemate/casematelaw24.BootTries", spec := "bootTries", inPlace := ["math/bits.Sub64", "math/bits.Add64", "sync/atomic.LoadUint32", "(*internal/sync.Mutex).Lock", "internal/race.Disable", "sync/atomic.CompareAndSwapInt32", "internal/race.Enable", "internal/race.Acquire", "(*internal/sync.Mutex).lockSlow", "internal/sync.runtime_canSpin", "internal/sync.runtime_doSpin", "internal/sync.throw", "internal/sync.runtime_nanotime", "internal/sync.runtime_SemacquireMutex", "sync/atomic.AddInt32", "(*internal/sync.Mutex).Unlock", "internal/race.ReleaseMerge", "(*internal/sync.Mutex).unlockSlow", "internal/sync.fatal", "internal/sync.runtime_Semrelease", "sync/atomic.StoreUint32", "sync/atomic.AddInt64", "sync/atomic.LoadInt64"], unfollowed := true, recurses := true, plainKeys := false, apart := false, narrowed := true }
def BootTriesUptoSaid : Prop := bootTriesUptoRow.holds Tryz.pinned (OpenSpec.upto bootTriesSpec)

/-- 'casematelaw24.BootFuse', WHERE WHAT IT READS IS OF BULK AT MOST 1048576: true; the input reads as it did. -/
def bootFuseUptoRow : OpenClaim := { program := "ytcedojacbhnbiaagreat", sum := "d3b638ea40563c8992c9710f0b50a2b3cc596d689a4b4599e2863b53db7e0ffe", func := "casemate/casematelaw24.BootFuse", spec := "bootFuse", inPlace := ["math/bits.Sub64", "math/bits.Add64", "sync/atomic.LoadUint32", "(*internal/sync.Mutex).Lock", "internal/race.Disable", "sync/atomic.CompareAndSwapInt32", "internal/race.Enable", "internal/race.Acquire", "(*internal/sync.Mutex).lockSlow", "internal/sync.runtime_canSpin", "internal/sync.runtime_doSpin", "internal/sync.throw", "internal/sync.runtime_nanotime", "internal/sync.runtime_SemacquireMutex", "sync/atomic.AddInt32", "(*internal/sync.Mutex).Unlock", "internal/race.ReleaseMerge", "(*internal/sync.Mutex).unlockSlow", "internal/sync.fatal", "internal/sync.runtime_Semrelease", "sync/atomic.StoreUint32", "sync/atomic.AddInt64", "sync/atomic.LoadInt64"], unfollowed := true, recurses := true, plainKeys := false, apart := false, narrowed := true }
def BootFuseUptoSaid : Prop := bootFuseUptoRow.holds Tryz.pinned (OpenSpec.upto bootFuseSpec)

/-- 'casematelaw24.BootRefuses', WHERE WHAT IT READS IS OF BULK AT MOST 1048576: true; the input reads as it did. -/
def bootRefusesUptoRow : OpenClaim := { program := "ytcedojacbhnbiaagreat", sum := "d3b638ea40563c8992c9710f0b50a2b3cc596d689a4b4599e2863b53db7e0ffe", func := "casemate/casematelaw24.BootRefuses", spec := "bootRefuses", inPlace := ["math/bits.Sub64", "math/bits.Add64", "sync/atomic.LoadUint32", "(*internal/sync.Mutex).Lock", "internal/race.Disable", "sync/atomic.CompareAndSwapInt32", "internal/race.Enable", "internal/race.Acquire", "(*internal/sync.Mutex).lockSlow", "internal/sync.runtime_canSpin", "internal/sync.runtime_doSpin", "internal/sync.throw", "internal/sync.runtime_nanotime", "internal/sync.runtime_SemacquireMutex", "sync/atomic.AddInt32", "(*internal/sync.Mutex).Unlock", "internal/race.ReleaseMerge", "(*internal/sync.Mutex).unlockSlow", "internal/sync.fatal", "internal/sync.runtime_Semrelease", "sync/atomic.StoreUint32", "sync/atomic.AddInt64", "sync/atomic.LoadInt64"], unfollowed := true, recurses := true, plainKeys := false, apart := false, narrowed := true }
def BootRefusesUptoSaid : Prop := bootRefusesUptoRow.holds Tryz.pinned (OpenSpec.upto bootRefusesSpec)

/-- 'casematelaw24.BootDoes', WHERE WHAT IT READS IS OF BULK AT MOST 1048576: true; the input reads as it did. -/
def bootDoesUptoRow : OpenClaim := { program := "ytcedojacbhnbiaagreat", sum := "d3b638ea40563c8992c9710f0b50a2b3cc596d689a4b4599e2863b53db7e0ffe", func := "casemate/casematelaw24.BootDoes", spec := "bootDoes", inPlace := ["math/bits.Sub64", "math/bits.Add64", "sync/atomic.LoadUint32", "(*internal/sync.Mutex).Lock", "internal/race.Disable", "sync/atomic.CompareAndSwapInt32", "internal/race.Enable", "internal/race.Acquire", "(*internal/sync.Mutex).lockSlow", "internal/sync.runtime_canSpin", "internal/sync.runtime_doSpin", "internal/sync.throw", "internal/sync.runtime_nanotime", "internal/sync.runtime_SemacquireMutex", "sync/atomic.AddInt32", "(*internal/sync.Mutex).Unlock", "internal/race.ReleaseMerge", "(*internal/sync.Mutex).unlockSlow", "internal/sync.fatal", "internal/sync.runtime_Semrelease", "sync/atomic.StoreUint32", "sync/atomic.AddInt64", "sync/atomic.LoadInt64"], unfollowed := true, recurses := true, plainKeys := false, apart := false, narrowed := true }
def BootDoesUptoSaid : Prop := bootDoesUptoRow.holds Tryz.pinned (OpenSpec.upto bootDoesSpec)

/-- 'casematelaw25.UpdateInstalls', WHERE WHAT IT READS IS OF BULK AT MOST 1048576: true; the input reads as it did. -/
def updateInstallsUptoRow : OpenClaim := { program := "ytcedojacbhnbiaagreat", sum := "d3b638ea40563c8992c9710f0b50a2b3cc596d689a4b4599e2863b53db7e0ffe", func := "casemate/casematelaw25.UpdateInstalls", spec := "updateInstalls", inPlace := ["math/bits.Add64", "sync/atomic.LoadUint32", "(*internal/sync.Mutex).Lock", "internal/race.Disable", "sync/atomic.CompareAndSwapInt32", "internal/race.Enable", "internal/race.Acquire", "(*internal/sync.Mutex).lockSlow", "internal/sync.runtime_canSpin", "internal/sync.runtime_doSpin", "internal/sync.throw", "internal/sync.runtime_nanotime", "internal/sync.runtime_SemacquireMutex", "sync/atomic.AddInt32", "(*internal/sync.Mutex).Unlock", "internal/race.ReleaseMerge", "(*internal/sync.Mutex).unlockSlow", "internal/sync.fatal", "internal/sync.runtime_Semrelease", "sync/atomic.StoreUint32", "sync/atomic.AddInt64", "sync/atomic.LoadInt64", "math/bits.Sub64"], unfollowed := true, recurses := true, plainKeys := false, apart := false, narrowed := true }
def UpdateInstallsUptoSaid : Prop := updateInstallsUptoRow.holds Tryz.pinned (OpenSpec.upto updateInstallsSpec)

/-- 'casematelaw25.UpdateKeeps', WHERE WHAT IT READS IS OF BULK AT MOST 1048576: true; the input reads as it did. -/
def updateKeepsUptoRow : OpenClaim := { program := "ytcedojacbhnbiaagreat", sum := "d3b638ea40563c8992c9710f0b50a2b3cc596d689a4b4599e2863b53db7e0ffe", func := "casemate/casematelaw25.UpdateKeeps", spec := "updateKeeps", inPlace := ["math/bits.Add64", "sync/atomic.LoadUint32", "(*internal/sync.Mutex).Lock", "internal/race.Disable", "sync/atomic.CompareAndSwapInt32", "internal/race.Enable", "internal/race.Acquire", "(*internal/sync.Mutex).lockSlow", "internal/sync.runtime_canSpin", "internal/sync.runtime_doSpin", "internal/sync.throw", "internal/sync.runtime_nanotime", "internal/sync.runtime_SemacquireMutex", "sync/atomic.AddInt32", "(*internal/sync.Mutex).Unlock", "internal/race.ReleaseMerge", "(*internal/sync.Mutex).unlockSlow", "internal/sync.fatal", "internal/sync.runtime_Semrelease", "sync/atomic.StoreUint32", "sync/atomic.AddInt64", "sync/atomic.LoadInt64", "math/bits.Sub64"], unfollowed := true, recurses := true, plainKeys := false, apart := false, narrowed := true }
def UpdateKeepsUptoSaid : Prop := updateKeepsUptoRow.holds Tryz.pinned (OpenSpec.upto updateKeepsSpec)

/-- 'casematelaw25.UpdateBoots', WHERE WHAT IT READS IS OF BULK AT MOST 1048576: true; the input reads as it did. -/
def updateBootsUptoRow : OpenClaim := { program := "ytcedojacbhnbiaagreat", sum := "d3b638ea40563c8992c9710f0b50a2b3cc596d689a4b4599e2863b53db7e0ffe", func := "casemate/casematelaw25.UpdateBoots", spec := "updateBoots", inPlace := ["math/bits.Add64", "sync/atomic.LoadUint32", "(*internal/sync.Mutex).Lock", "internal/race.Disable", "sync/atomic.CompareAndSwapInt32", "internal/race.Enable", "internal/race.Acquire", "(*internal/sync.Mutex).lockSlow", "internal/sync.runtime_canSpin", "internal/sync.runtime_doSpin", "internal/sync.throw", "internal/sync.runtime_nanotime", "internal/sync.runtime_SemacquireMutex", "sync/atomic.AddInt32", "(*internal/sync.Mutex).Unlock", "internal/race.ReleaseMerge", "(*internal/sync.Mutex).unlockSlow", "internal/sync.fatal", "internal/sync.runtime_Semrelease", "sync/atomic.StoreUint32", "sync/atomic.AddInt64", "sync/atomic.LoadInt64", "math/bits.Sub64"], unfollowed := true, recurses := true, plainKeys := false, apart := false, narrowed := true }
def UpdateBootsUptoSaid : Prop := updateBootsUptoRow.holds Tryz.pinned (OpenSpec.upto updateBootsSpec)

/-- 'casematelaw25.UpdateCuts', WHERE WHAT IT READS IS OF BULK AT MOST 1048576: true; the input reads as it did. -/
def updateCutsUptoRow : OpenClaim := { program := "ytcedojacbhnbiaagreat", sum := "d3b638ea40563c8992c9710f0b50a2b3cc596d689a4b4599e2863b53db7e0ffe", func := "casemate/casematelaw25.UpdateCuts", spec := "updateCuts", inPlace := ["math/bits.Add64", "sync/atomic.LoadUint32", "(*internal/sync.Mutex).Lock", "internal/race.Disable", "sync/atomic.CompareAndSwapInt32", "internal/race.Enable", "internal/race.Acquire", "(*internal/sync.Mutex).lockSlow", "internal/sync.runtime_canSpin", "internal/sync.runtime_doSpin", "internal/sync.throw", "internal/sync.runtime_nanotime", "internal/sync.runtime_SemacquireMutex", "sync/atomic.AddInt32", "(*internal/sync.Mutex).Unlock", "internal/race.ReleaseMerge", "(*internal/sync.Mutex).unlockSlow", "internal/sync.fatal", "internal/sync.runtime_Semrelease", "sync/atomic.StoreUint32", "sync/atomic.AddInt64", "sync/atomic.LoadInt64", "math/bits.Sub64"], unfollowed := true, recurses := true, plainKeys := false, apart := false, narrowed := true }
def UpdateCutsUptoSaid : Prop := updateCutsUptoRow.holds Tryz.pinned (OpenSpec.upto updateCutsSpec)

end Rows
end Go.Proofs.YtcedojacbhnbiaaGreat
