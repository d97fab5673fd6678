/- The law ChipNil tells true for every numbers and bytes, and turns nothing that was there. No condition. -/
import Derived.Test.YtgmdagjnigkaaaaRows
import Derived.Test.YtgmdagjnigkaaaaLG
import Derived.Test.YtgmdagjnigkaaaaN1
namespace Go.Proofs.Ytgmdagjnigkaaaa
open Go.Sl Go.ChangeShapes Go.WideShapes Go.ChangeAt Go.RowKit
set_option linter.unusedVariables false
set_option maxRecDepth 100000 in
theorem chipNil_lifted (os : Os) (started : os.Started) (H : Type) (enc : TypeId × Value → H) :
    ReturnsInHanded {} Try.checked os 10 .any (Rows.chipNilSpec.pre6 enc Try.prog Try.f10 Rows.chipNilRow.domain false) (Rows.chipNilSpec.post enc Try.prog Try.f10 false true false false) := by
  refine law_lifted (C := Try.checked) l1_own started (by kernel_rfl) Try.func10
    (ChangeSpec.witness6 (enc := enc) (C := Try.checked) false ⟨#[], #[.int .i64 0, .int .i64 0, .slice none 0 0], []⟩ 8 (by kernel_rfl) (by kernel_rfl) (by kernel_rfl) (by kernel_rfl))
    l1_laid (by kernel_rfl) rfl (fun ds h => ?_) rfl Try.underlying4 ?_
  · match ds, h with
    | [d0, d1, d2], _ => rfl
  · intro W base args ds p hval hA hlt
    have hn := (trodAll_length hA).1
    have hn' := (trodAll_length hA).2
    obtain ⟨l⟩ := args
    match l, hn, ds, hn' with
    | [v0, v1, v2], _, [d0, d1, d2], _ =>
      obtain ⟨n0, rfl, hn0⟩ := open_num Try.underlying3 (hval 0 _ v0 rfl rfl)
      obtain ⟨n1, rfl, hn1⟩ := open_num Try.underlying3 (hval 1 _ v1 rfl rfl)
      have hA2 := hA
      obtain ⟨_, _, _, hA2, _⟩ := hA2
      obtain ⟨_, _, _, hA2, _⟩ := hA2
      obtain ⟨_, _, hT2, _, _⟩ := hA2
      exact law07_ChipNil n0 n1 v2 W _

theorem chipNil_holds : Rows.ChipNilSaid :=
  OpenClaim.holds_of_wide 10 Try.f10 rfl rfl rfl rfl rfl rfl rfl ⟨rfl, rfl, rfl, rfl, rfl⟩ rfl rfl rfl rfl rfl (by kernel_rfl) Try.func10 (by kernel_rfl)
    (of_decide_eq_true (by kernel_rfl)) (by unfold Func.isWrapper; rw [if_neg (of_decide_eq_false (by kernel_rfl))]; exact ⟨rfl, rfl⟩)
    (fun os started H enc _ => chipNil_lifted os started H enc)
end Go.Proofs.Ytgmdagjnigkaaaa
