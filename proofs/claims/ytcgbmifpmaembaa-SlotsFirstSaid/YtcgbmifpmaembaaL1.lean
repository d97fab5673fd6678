/- The law SlotsFirst tells true for every slots, and turns nothing. No condition. -/
import Derived.Test.YtcgbmifpmaembaaRows
import Derived.Test.YtcgbmifpmaembaaSlT
import Derived.Test.YtcgbmifpmaembaaS3
namespace Go.Proofs.Ytcgbmifpmaembaa
open Go.Sl Go.ChangeShapes Go.WideShapes Go.ChangeAt Go.RowKit

theorem l1_own : ownKnob Try.prog.godebug = none := by kernel_rfl
theorem l1_laid : laidOutB Try.prog = true := by kernel_rfl
theorem open_slots {W : World} {r : Reach} {base : Nat} {v : Value} (h : Value.okWide Try.prog W r base 26 v) : ∃ s : Slo, v = s.v := by
  obtain ⟨cs, rfl, hsz, hc⟩ := wide_agg (ts := [3, 3, 4, 3, 4]) ⟨_, Try.underlying26, .inl ⟨_, rfl⟩⟩ (by kernel_rfl) (by kernel_rfl) h
  obtain ⟨l⟩ := cs
  match l, hsz with
  | [c0, c1, c2, c3, c4], _ =>
    obtain ⟨f, rfl, _⟩ := (hc 0 _ c0 rfl rfl).int Try.underlying3
    obtain ⟨t0, rfl, _⟩ := (hc 1 _ c1 rfl rfl).int Try.underlying3
    obtain ⟨g0, rfl⟩ := (hc 2 _ c2 rfl rfl).bool Try.underlying4
    obtain ⟨t1, rfl, _⟩ := (hc 3 _ c3 rfl rfl).int Try.underlying3
    obtain ⟨g1, rfl⟩ := (hc 4 _ c4 rfl rfl).bool Try.underlying4
    exact ⟨⟨f, t0, g0, t1, g1⟩, rfl⟩

set_option maxRecDepth 100000 in
theorem slotsFirst_lifted (os : Os) (started : os.Started) (H : Type) (enc : TypeId × Value → H) :
    ReturnsInHanded {} Try.checked os 3 .any (Rows.slotsFirstSpec.pre6 enc Try.prog Try.f3 Rows.slotsFirstRow.domain false) (Rows.slotsFirstSpec.post enc Try.prog Try.f3 false true false false) := by
  refine law_lifted (C := Try.checked) l1_own started (by kernel_rfl) Try.func3
    (ChangeSpec.witness6 (enc := enc) (C := Try.checked) false ⟨#[], #[.agg #[.int .i64 0, .int .i64 0, .bool false, .int .i64 0, .bool false]], []⟩ 8 (by kernel_rfl) (by kernel_rfl) (by kernel_rfl) (by kernel_rfl))
    l1_laid (by kernel_rfl) rfl (fun ds h => ?_) rfl Try.underlying4 ?_
  · match ds, h with
    | [d], _ => rfl
  · intro W base args ds p hval hA hlt
    have hn := (trodAll_length hA).1
    obtain ⟨l⟩ := args
    match l, hn with
    | [v0], _ =>
      obtain ⟨s, rfl⟩ := open_slots (hval 0 _ v0 rfl rfl)
      exact law22_SlotsFirst s W _

theorem slotsFirst_holds : Rows.SlotsFirstSaid :=
  OpenClaim.holds_of_wide 3 Try.f3 rfl rfl rfl rfl rfl rfl rfl ⟨rfl, rfl, rfl, rfl, rfl⟩ rfl rfl rfl rfl rfl (by kernel_rfl) Try.func3 (by kernel_rfl)
    (of_decide_eq_true (by kernel_rfl)) (by unfold Func.isWrapper; rw [if_neg (of_decide_eq_false (by kernel_rfl))]; exact ⟨rfl, rfl⟩)
    (fun os started H enc _ => slotsFirst_lifted os started H enc)
end Go.Proofs.Ytcgbmifpmaembaa
