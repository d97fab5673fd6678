/- The law StoreDoes tells true for every QI, bad blocks, number and script, and turns nothing that was there. No condition. -/
import Derived.Test.YtcmojpiokjhmhaaGreatRows
import Derived.Test.YtcmojpiokjhmhaaGreatP4
import Derived.Test.YtcmojpiokjhmhaaGreatP31
namespace Go.Proofs.YtcmojpiokjhmhaaGreat
open Go.Sl Go.ChangeShapes Go.WideShapes Go.ChangeAt Go.RowKit
set_option linter.unusedVariables false
set_option maxRecDepth 100000 in
theorem vB (os : Os) (started : os.Started) (H : Type) (enc : TypeId × Value → H) :
    ReturnsInHanded {} Tryz.checked os 3 .any (Rows.storeDoesSpec.pre6 enc Tryz.prog Tryz.f3 Rows.storeDoesRow.domain false) (Rows.storeDoesSpec.post enc Tryz.prog Tryz.f3 false true false false) := by
  refine FR (C := Tryz.checked) Pg started (by kernel_rfl) Tryz.func3
    (ChangeSpec.witness6 (enc := enc) (C := Tryz.checked) false ⟨#[], #[.agg #[.int .i64 0, .int .i64 0, .int .i64 0, .int .i64 0, .int .i64 0], .slice none 0 0, .int .i64 0, .slice none 0 0], []⟩ 8 (by kernel_rfl) (by kernel_rfl) (by kernel_rfl) (by kernel_rfl))
    M4 (by kernel_rfl) rfl (fun ds h => ?_) rfl Tryz.underlying4 ?_
  · match ds, h with
    | [d0, d1, d2, d3], _ => rfl
  · intro W base args ds p hval hA hlt
    have hn := (trodAll_length hA).1
    have hn' := (trodAll_length hA).2
    obtain ⟨l⟩ := args
    match l, hn, ds, hn' with
    | [v0, v1, v2, v3], _, [d0, d1, d2, d3], _ =>
      obtain ⟨g, rfl⟩ := Le (hval 0 _ v0 rfl rfl)
      have hA1 := hA
      obtain ⟨_, _, _, hA1, _⟩ := hA1
      obtain ⟨_, _, hT1, _, _⟩ := hA1
      obtain ⟨A1, m1, Ut, xs1, rfl, hs1, hb1, hl1, hm1⟩ := Ck Tryz.underlying24 Tryz.underlying3 (by kernel_rfl) (hval 1 _ v1 rfl rfl) hT1
      obtain ⟨n2, rfl, hn2⟩ := pY Tryz.underlying3 (hval 2 _ v2 rfl rfl)
      have hA3 := hA
      obtain ⟨_, _, _, hA3, _⟩ := hA3
      obtain ⟨_, _, _, hA3, _⟩ := hA3
      obtain ⟨_, _, _, hA3, _⟩ := hA3
      obtain ⟨_, _, mW, _, _⟩ := hA3
      exact (by obtain ⟨A3, m3, Uc, UQ, rfl, hs3⟩ := A8 (hval 3 _ v3 rfl rfl) mW; exact xE g n2 hs1 hs3)

theorem storeDoes_holds : Rows.StoreDoesSaid :=
  OpenClaim.holds_of_wide 3 Tryz.f3 rfl rfl rfl rfl rfl rfl rfl ⟨rfl, rfl, rfl, rfl, rfl⟩ rfl rfl rfl rfl rfl (by kernel_rfl) Tryz.func3 (by kernel_rfl)
    (of_decide_eq_true (by kernel_rfl)) (by unfold Func.isWrapper; rw [if_neg (of_decide_eq_false (by kernel_rfl))]; exact ⟨rfl, rfl⟩)
    (fun os started H enc _ => vB os started H enc)
end Go.Proofs.YtcmojpiokjhmhaaGreat
