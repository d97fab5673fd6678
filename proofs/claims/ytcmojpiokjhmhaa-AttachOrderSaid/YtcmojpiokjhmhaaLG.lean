/- Geometries and numbers that are handed in. -/
import Derived.Test.YtcmojpiokjhmhaaSlT
import Derived.Test.YtcmojpiokjhmhaaG1
import Derived.Test.YtcmojpiokjhmhaaChecked
namespace Go.Proofs.Ytcmojpiokjhmhaa
open Go.Sl Go.ChangeShapes Go.WideShapes Go.ChangeAt Go.RowKit
theorem l1_own : ownKnob Try.prog.godebug = none := by kernel_rfl
theorem l1_laid : laidOutB Try.prog = true := by kernel_rfl
theorem open_num {P : Program} {W : World} {r : Reach} {base : Nat} {t : TypeId} {k : IntKind} {v : Value} (hu : P.underlying t = some (.int k)) (h : Value.okWide P W r base t v) : ∃ i, v = .int k i ∧ k.min ≤ i ∧ i ≤ k.max := by
  have h' : Cell.okWide P W r base t v := by simpa only [Value.okWide, hu] using h
  exact (cellIs h').int hu
theorem okWide_cap {P : Program} {W : World} {r : Reach} {base : Nat} {t e : TypeId} {A : Option Addr} {m cap : Nat} (ht : P.underlying t = some (.slice e)) (h : Value.okWide P W r base t (.slice A m cap)) : m ≤ cap := by
  simp only [Value.okWide, ht, Cell.okWide] at h
  cases A with
  | none =>
    match m, cap, h with
    | 0, _, _ => exact Nat.zero_le _
    | m + 1, cap, h => simp [Cell.ok, ht] at h
  | some a => simp only [Cell.ok, ht] at h; exact h.1
theorem u8_bd {i : Int} (h : IntKind.u8.min ≤ i ∧ i ≤ IntKind.u8.max) : 0 ≤ i ∧ i < 256 := by
  have e1 : IntKind.u8.min = 0 := rfl
  have e2 : IntKind.u8.max = 255 := rfl
  omega
end Go.Proofs.Ytcmojpiokjhmhaa
