/- Slots that are handed in. -/
import Derived.Test.YtcgbmifpmaembaaSlT
import Derived.Test.YtcgbmifpmaembaaS3
import Derived.Test.YtcgbmifpmaembaaChecked
namespace Go.Proofs.Ytcgbmifpmaembaa
open Go.Sl Go.ChangeShapes Go.WideShapes Go.ChangeAt Go.RowKit
theorem l1_own : ownKnob Try.prog.godebug = none := by kernel_rfl
theorem l1_laid : laidOutB Try.prog = true := by kernel_rfl
theorem open_slots {W : World} {r : Reach} {base : Nat} {v : Value} (h : Value.okWide Try.prog W r base 26 v) : ∃ s : Slo, v = s.v := by
  obtain ⟨cs, rfl, hsz, hc⟩ := wide_agg (ts := [3, 3, 4, 3, 4]) ⟨_, Try.underlying26, .inl ⟨_, rfl⟩⟩ (by kernel_rfl) (by kernel_rfl) h
  obtain ⟨l⟩ := cs
  match l, hsz with
  | [c0, c1, c2, c3, c4], _ =>
    obtain ⟨f, rfl, _⟩ := (hc 0 _ c0 rfl rfl).int Try.underlying3
    obtain ⟨t0, rfl, _⟩ := (hc 1 _ c1 rfl rfl).int Try.underlying3
    obtain ⟨g0, rfl⟩ := (hc 2 _ c2 rfl rfl).bool Try.underlying4
    obtain ⟨t1, rfl, _⟩ := (hc 3 _ c3 rfl rfl).int Try.underlying3
    obtain ⟨g1, rfl⟩ := (hc 4 _ c4 rfl rfl).bool Try.underlying4
    exact ⟨⟨f, t0, g0, t1, g1⟩, rfl⟩

end Go.Proofs.Ytcgbmifpmaembaa
