/- The law BootRefuses tells true for every Ow, number, keys and launch, and turns nothing that was there. No condition. -/
import Derived.Test.YtcedojacbhnbiaaGreatRows
import Derived.Test.YtcedojacbhnbiaaGreatP6
import Derived.Test.YtcedojacbhnbiaaGreatP32
namespace Go.Proofs.YtcedojacbhnbiaaGreat
open Go.Sl Go.ChangeShapes Go.WideShapes Go.ChangeAt Go.RowKit
set_option linter.unusedVariables false
set_option maxRecDepth 100000 in
theorem rM (os : Os) (started : os.Started) (H : Type) (enc : TypeId × Value → H) :
    ReturnsInHanded {} Tryz.checked os 7 .any (Rows.bootRefusesSpec.pre6 enc Tryz.prog Tryz.f7 Rows.bootRefusesRow.domain false) (Rows.bootRefusesSpec.post enc Tryz.prog Tryz.f7 false true false false) := by
  refine xS (C := Tryz.checked) Js started (by kernel_rfl) Tryz.func7
    (ChangeSpec.witness6 (enc := enc) (C := Tryz.checked) false ⟨#[], #[.agg #[.int .i64 0, .int .i64 0, .int .i64 0, .int .i64 0, .int .i64 0], .int .i64 0, .slice none 0 0, .agg #[.int .i64 0, .int .i64 0, .int .i64 0, .slice none 0 0, .int .i64 0]], []⟩ 8 (by kernel_rfl) (by kernel_rfl) (by kernel_rfl) (by kernel_rfl))
    xk (by kernel_rfl) rfl (fun ds h => ?_) rfl Tryz.underlying4 ?_
  · match ds, h with
    | [d0, d1, d2, d3], _ => rfl
  · intro W base args ds p hval hA hlt
    have hn := (trodAll_length hA).1
    have hn' := (trodAll_length hA).2
    obtain ⟨l⟩ := args
    match l, hn, ds, hn' with
    | [v0, v1, v2, v3], _, [d0, d1, d2, d3], _ =>
      obtain ⟨g, rfl⟩ := Kq (hval 0 _ v0 rfl rfl)
      obtain ⟨n1, rfl, hn1⟩ := nV Tryz.underlying3 (hval 1 _ v1 rfl rfl)
      obtain ⟨A2, m2, cap2, rfl⟩ := okWide_slice Tryz.underlying24 (hval 2 _ v2 rfl rfl)
      obtain ⟨Ro, RU, Rq, SF, Ri, rfl⟩ := Ep (hval 3 _ v3 rfl rfl)
      exact uz g n1 Ro RU Rq Ri

set_option maxRecDepth 100000
theorem zB : (Rows.bootRefusesRow.inPlace == Program.inPlace Tryz.prog 7) = true := by kernel_rfl
theorem zH : (Rows.bootRefusesRow.unfollowed == Program.unfollowed Tryz.prog 7) = true := by kernel_rfl
theorem xP : (Rows.bootRefusesRow.recurses == Program.recurses Tryz.prog 7) = true := by kernel_rfl
theorem yO : (Rows.bootRefusesRow.named == Program.varsNamed Tryz.prog 7) = true := by kernel_rfl
theorem zL : (Rows.bootRefusesRow.lifted == Program.liftsFinal Tryz.prog) = true := by kernel_rfl
theorem y7 : (Program.make Tryz.prog == some Rows.bootRefusesRow.make) = true := by kernel_rfl
theorem ze : nM Tryz.prog Tryz.f7 Rows.bootRefusesSpec Rows.bootRefusesRow = true := by kernel_rfl
theorem bootRefuses_holds : Rows.BootRefusesSaid :=
  OpenClaim.holds_of_wide 7 Tryz.f7 rfl rfl rfl rfl rfl rfl rfl ⟨rfl, rfl, rfl, rfl, rfl⟩ rfl rfl rfl rfl rfl (by kernel_rfl) Tryz.func7
    (AA xk Km GQ Gy zB zH xP yO zL y7 ze)
    (of_decide_eq_true (by kernel_rfl)) (by unfold Func.isWrapper; rw [if_neg (of_decide_eq_false (by kernel_rfl))]; exact ⟨rfl, rfl⟩)
    (fun os started H enc _ => rM os started H enc)
end Go.Proofs.YtcedojacbhnbiaaGreat
