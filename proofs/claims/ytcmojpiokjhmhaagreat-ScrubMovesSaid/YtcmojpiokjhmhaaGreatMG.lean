/- The law ScrubMoves tells true for every zI, bytes and number, and turns nothing that was there. No condition. -/
import Derived.Test.YtcmojpiokjhmhaaGreatRows
import Derived.Test.YtcmojpiokjhmhaaGreatP4
import Derived.Test.YtcmojpiokjhmhaaGreatP34
namespace Go.Proofs.YtcmojpiokjhmhaaGreat
open Go.Sl Go.ChangeShapes Go.WideShapes Go.ChangeAt Go.RowKit
set_option linter.unusedVariables false
set_option maxRecDepth 100000 in
theorem uL (os : Os) (started : os.Started) (H : Type) (enc : TypeId × Value → H) :
    ReturnsInHanded {} Tryz.checked os 7 .any (Rows.scrubMovesSpec.pre6 enc Tryz.prog Tryz.f7 Rows.scrubMovesRow.domain false) (Rows.scrubMovesSpec.post enc Tryz.prog Tryz.f7 false true false false) := by
  refine oN (C := Tryz.checked) Dk started (by kernel_rfl) Tryz.func7
    (ChangeSpec.witness6 (enc := enc) (C := Tryz.checked) false ⟨#[], #[.agg #[.int .i64 0, .int .i64 0, .int .i64 0, .int .i64 0, .int .i64 0], .slice none 0 0, .int .i64 0], []⟩ 8 (by kernel_rfl) (by kernel_rfl) (by kernel_rfl) (by kernel_rfl))
    yZ (by kernel_rfl) rfl (fun ds h => ?_) rfl Tryz.underlying4 ?_
  · match ds, h with
    | [d0, d1, d2], _ => rfl
  · intro W base args ds p hval hA hlt
    have hn := (trodAll_length hA).1
    have hn' := (trodAll_length hA).2
    obtain ⟨l⟩ := args
    match l, hn, ds, hn' with
    | [v0, v1, v2], _, [d0, d1, d2], _ =>
      obtain ⟨g, rfl⟩ := uK (hval 0 _ v0 rfl rfl)
      have hA1 := hA
      obtain ⟨_, _, _, hA1, _⟩ := hA1
      obtain ⟨_, _, hT1, _, _⟩ := hA1
      obtain ⟨A1, m1, Pn, ss1, rfl, hs1, hl1, hm1, hb1⟩ := kJ Tryz.underlying38 Tryz.underlying9 (by kernel_rfl) (hval 1 _ v1 rfl rfl) hT1
      obtain ⟨n2, rfl, hn2⟩ := jX Tryz.underlying3 (hval 2 _ v2 rfl rfl)
      exact xg n2 hs1 hl1

theorem scrubMoves_holds : Rows.ScrubMovesSaid :=
  OpenClaim.holds_of_wide 7 Tryz.f7 rfl rfl rfl rfl rfl rfl rfl ⟨rfl, rfl, rfl, rfl, rfl⟩ rfl rfl rfl rfl rfl (by kernel_rfl) Tryz.func7 (by kernel_rfl)
    (of_decide_eq_true (by kernel_rfl)) (by unfold Func.isWrapper; rw [if_neg (of_decide_eq_false (by kernel_rfl))]; exact ⟨rfl, rfl⟩)
    (fun os started H enc _ => uL os started H enc)
end Go.Proofs.YtcmojpiokjhmhaaGreat
