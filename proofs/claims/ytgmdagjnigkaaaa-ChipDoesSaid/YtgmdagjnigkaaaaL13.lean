/- The law ChipDoes tells true for every geometry, list of bad blocks and script, and turns nothing that was there. No condition. -/
import Derived.Test.YtgmdagjnigkaaaaRows
import Derived.Test.YtgmdagjnigkaaaaLG
import Derived.Test.YtgmdagjnigkaaaaL9
import Derived.Test.YtgmdagjnigkaaaaK9
namespace Go.Proofs.Ytgmdagjnigkaaaa
open Go.Sl Go.ChangeShapes Go.WideShapes Go.ChangeAt Go.RowKit
set_option linter.unusedVariables false
set_option maxRecDepth 100000 in
theorem chipDoes_lifted (os : Os) (started : os.Started) (H : Type) (enc : TypeId × Value → H) :
    ReturnsInHanded {} Try.checked os 9 .any (Rows.chipDoesSpec.pre6 enc Try.prog Try.f9 Rows.chipDoesRow.domain false) (Rows.chipDoesSpec.post enc Try.prog Try.f9 false true false false) := by
  refine law_lifted (C := Try.checked) l1_own started (by kernel_rfl) Try.func9
    (ChangeSpec.witness6 (enc := enc) (C := Try.checked) false ⟨#[], #[.agg #[.int .i64 0, .int .i64 0, .int .i64 0, .int .i64 0, .int .i64 0], .slice none 0 0, .slice none 0 0], []⟩ 8 (by kernel_rfl) (by kernel_rfl) (by kernel_rfl) (by kernel_rfl))
    l1_laid (by kernel_rfl) rfl (fun ds h => ?_) rfl Try.underlying4 ?_
  · match ds, h with
    | [d0, d1, d2], _ => rfl
  · intro W base args ds p hval hA hlt
    have hn := (trodAll_length hA).1
    have hn' := (trodAll_length hA).2
    obtain ⟨l⟩ := args
    match l, hn, ds, hn' with
    | [v0, v1, v2], _, [d0, d1, d2], _ =>
      obtain ⟨g, rfl⟩ := open_geo (hval 0 _ v0 rfl rfl)
      have hA1 := hA
      obtain ⟨_, _, _, hA1, _⟩ := hA1
      obtain ⟨_, _, hT1, _, _⟩ := hA1
      obtain ⟨A1, m1, cap1, xs1, rfl, hs1, hb1, hl1, hm1⟩ := open_intsSeq Try.underlying40 Try.underlying3 (by kernel_rfl) (hval 1 _ v1 rfl rfl) hT1
      have hA2 := hA
      obtain ⟨_, _, _, hA2, _⟩ := hA2
      obtain ⟨_, _, _, hA2, _⟩ := hA2
      obtain ⟨_, _, hT2, _, _⟩ := hA2
      obtain ⟨A2, m2, cap2, sc, rfl, hs2⟩ := open_script (hval 2 _ v2 rfl rfl) hT2
      exact law07_ChipDoes g hs1 hs2

theorem chipDoes_holds : Rows.ChipDoesSaid :=
  OpenClaim.holds_of_wide 9 Try.f9 rfl rfl rfl rfl rfl rfl rfl ⟨rfl, rfl, rfl, rfl, rfl⟩ rfl rfl rfl rfl rfl (by kernel_rfl) Try.func9 (by kernel_rfl)
    (of_decide_eq_true (by kernel_rfl)) (by unfold Func.isWrapper; rw [if_neg (of_decide_eq_false (by kernel_rfl))]; exact ⟨rfl, rfl⟩)
    (fun os started H enc _ => chipDoes_lifted os started H enc)
end Go.Proofs.Ytgmdagjnigkaaaa
