/- The law ChipFlips tells true for every geometry, block, two pages and bit, and turns nothing that was there. No condition. -/
import Derived.Test.YtgmdagjnigkaaaaRows
import Derived.Test.YtgmdagjnigkaaaaLG
import Derived.Test.YtgmdagjnigkaaaaK6
namespace Go.Proofs.Ytgmdagjnigkaaaa
open Go.Sl Go.ChangeShapes Go.WideShapes Go.ChangeAt Go.RowKit
set_option linter.unusedVariables false
set_option maxRecDepth 100000 in
theorem chipFlips_lifted (os : Os) (started : os.Started) (H : Type) (enc : TypeId × Value → H) :
    ReturnsInHanded {} Try.checked os 8 .any (Rows.chipFlipsSpec.pre6 enc Try.prog Try.f8 Rows.chipFlipsRow.domain false) (Rows.chipFlipsSpec.post enc Try.prog Try.f8 false true false false) := by
  refine law_lifted (C := Try.checked) l1_own started (by kernel_rfl) Try.func8
    (ChangeSpec.witness6 (enc := enc) (C := Try.checked) false ⟨#[], #[.agg #[.int .i64 0, .int .i64 0, .int .i64 0, .int .i64 0, .int .i64 0], .int .i64 0, .int .i64 0, .int .i64 0, .int .i64 0], []⟩ 8 (by kernel_rfl) (by kernel_rfl) (by kernel_rfl) (by kernel_rfl))
    l1_laid (by kernel_rfl) rfl (fun ds h => ?_) rfl Try.underlying4 ?_
  · match ds, h with
    | [d0, d1, d2, d3, d4], _ => rfl
  · intro W base args ds p hval hA hlt
    have hn := (trodAll_length hA).1
    have hn' := (trodAll_length hA).2
    obtain ⟨l⟩ := args
    match l, hn, ds, hn' with
    | [v0, v1, v2, v3, v4], _, [d0, d1, d2, d3, d4], _ =>
      obtain ⟨g, rfl⟩ := open_geo (hval 0 _ v0 rfl rfl)
      obtain ⟨n1, rfl, hn1⟩ := open_num Try.underlying3 (hval 1 _ v1 rfl rfl)
      obtain ⟨n2, rfl, hn2⟩ := open_num Try.underlying3 (hval 2 _ v2 rfl rfl)
      obtain ⟨n3, rfl, hn3⟩ := open_num Try.underlying3 (hval 3 _ v3 rfl rfl)
      obtain ⟨n4, rfl, hn4⟩ := open_num Try.underlying3 (hval 4 _ v4 rfl rfl)
      exact law07_ChipFlips g n1 n2 n3 n4 hn4.2 W _

theorem chipFlips_holds : Rows.ChipFlipsSaid :=
  OpenClaim.holds_of_wide 8 Try.f8 rfl rfl rfl rfl rfl rfl rfl ⟨rfl, rfl, rfl, rfl, rfl⟩ rfl rfl rfl rfl rfl (by kernel_rfl) Try.func8 (by kernel_rfl)
    (of_decide_eq_true (by kernel_rfl)) (by unfold Func.isWrapper; rw [if_neg (of_decide_eq_false (by kernel_rfl))]; exact ⟨rfl, rfl⟩)
    (fun os started H enc _ => chipFlips_lifted os started H enc)
end Go.Proofs.Ytgmdagjnigkaaaa
