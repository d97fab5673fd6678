/- The law BootLebs tells true for every two slots and segments, and turns nothing that was there. No condition. -/
import Derived.Test.YtcedojacbhnbiaaGreatRows
import Derived.Test.YtcedojacbhnbiaaGreatP6
import Derived.Test.YtcedojacbhnbiaaGreatP31
namespace Go.Proofs.YtcedojacbhnbiaaGreat
open Go.Sl Go.ChangeShapes Go.WideShapes Go.ChangeAt Go.RowKit
set_option linter.unusedVariables false
set_option maxRecDepth 100000 in
theorem wN (os : Os) (started : os.Started) (H : Type) (enc : TypeId × Value → H) :
    ReturnsInHanded {} Tryz.checked os 4 .any (Rows.bootLebsSpec.pre6 enc Tryz.prog Tryz.f4 Rows.bootLebsRow.domain false) (Rows.bootLebsSpec.post enc Tryz.prog Tryz.f4 false true false false) := by
  refine xS (C := Tryz.checked) Js started (by kernel_rfl) Tryz.func4
    (ChangeSpec.witness6 (enc := enc) (C := Tryz.checked) false ⟨#[], #[.int .i64 0, .int .i64 0, .int .i64 0, .int .i64 0], []⟩ 8 (by kernel_rfl) (by kernel_rfl) (by kernel_rfl) (by kernel_rfl))
    xk (by kernel_rfl) rfl (fun ds h => ?_) rfl Tryz.underlying4 ?_
  · match ds, h with
    | [d0, d1, d2, d3], _ => rfl
  · intro W base args ds p hval hA hlt
    have hn := (trodAll_length hA).1
    have hn' := (trodAll_length hA).2
    obtain ⟨l⟩ := args
    match l, hn, ds, hn' with
    | [v0, v1, v2, v3], _, [d0, d1, d2, d3], _ =>
      obtain ⟨n0, rfl, hn0⟩ := nV Tryz.underlying3 (hval 0 _ v0 rfl rfl)
      obtain ⟨n1, rfl, hn1⟩ := nV Tryz.underlying3 (hval 1 _ v1 rfl rfl)
      obtain ⟨n2, rfl, hn2⟩ := nV Tryz.underlying3 (hval 2 _ v2 rfl rfl)
      obtain ⟨n3, rfl, LQ⟩ := nV Tryz.underlying3 (hval 3 _ v3 rfl rfl)
      exact yH n0 n1 n2 n3 _ _

set_option maxRecDepth 100000
theorem Ea : (Rows.bootLebsRow.inPlace == Program.inPlace Tryz.prog 4) = true := by kernel_rfl
theorem Dw : (Rows.bootLebsRow.unfollowed == Program.unfollowed Tryz.prog 4) = true := by kernel_rfl
theorem E8 : (Rows.bootLebsRow.recurses == Program.recurses Tryz.prog 4) = true := by kernel_rfl
theorem Ev : (Rows.bootLebsRow.named == Program.varsNamed Tryz.prog 4) = true := by kernel_rfl
theorem DJ : (Rows.bootLebsRow.lifted == Program.liftsFinal Tryz.prog) = true := by kernel_rfl
theorem En : (Program.make Tryz.prog == some Rows.bootLebsRow.make) = true := by kernel_rfl
theorem Dm : nM Tryz.prog Tryz.f4 Rows.bootLebsSpec Rows.bootLebsRow = true := by kernel_rfl
theorem bootLebs_holds : Rows.BootLebsSaid :=
  OpenClaim.holds_of_wide 4 Tryz.f4 rfl rfl rfl rfl rfl rfl rfl ⟨rfl, rfl, rfl, rfl, rfl⟩ rfl rfl rfl rfl rfl (by kernel_rfl) Tryz.func4
    (AA xk Km GQ Gy Ea Dw E8 Ev DJ En Dm)
    (of_decide_eq_true (by kernel_rfl)) (by unfold Func.isWrapper; rw [if_neg (of_decide_eq_false (by kernel_rfl))]; exact ⟨rfl, rfl⟩)
    (fun os started H enc _ => wN os started H enc)
end Go.Proofs.YtcedojacbhnbiaaGreat
