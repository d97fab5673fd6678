/- The law AttachOrder tells true for every number, all that were found, and every turn, and turns nothing that was there. No condition. -/
import Derived.Test.YtcmojpiokjhmhaaRows
import Derived.Test.YtcmojpiokjhmhaaA6
namespace Go.Proofs.Ytcmojpiokjhmhaa
open Go.Sl Go.ChangeShapes Go.WideShapes Go.ChangeAt Go.RowKit
set_option linter.unusedVariables false
set_option maxRecDepth 100000 in
theorem attachOrder_lifted (os : Os) (started : os.Started) (H : Type) (enc : TypeId × Value → H) :
    ReturnsInHanded {} Try.checked os 3 .any (Rows.attachOrderSpec.pre6 enc Try.prog Try.f3 Rows.attachOrderRow.domain false) (Rows.attachOrderSpec.post enc Try.prog Try.f3 false true false false) := by
  refine law_lifted (C := Try.checked) l1_own started (by kernel_rfl) Try.func3
    (ChangeSpec.witness6 (enc := enc) (C := Try.checked) false ⟨#[], #[.int .i64 0, .slice none 0 0, .int .i64 0], []⟩ 8 (by kernel_rfl) (by kernel_rfl) (by kernel_rfl) (by kernel_rfl))
    l1_laid (by kernel_rfl) rfl (fun ds h => ?_) rfl Try.underlying4 ?_
  · match ds, h with
    | [d0, d1, d2], _ => rfl
  · intro W base args ds p hval hA hlt
    have hn := (trodAll_length hA).1
    have hn' := (trodAll_length hA).2
    obtain ⟨l⟩ := args
    match l, hn, ds, hn' with
    | [v0, v1, v2], _, [d0, d1, d2], _ =>
      obtain ⟨n0, rfl, hn0⟩ := open_num Try.underlying3 (hval 0 _ v0 rfl rfl)
      have hA1 := hA
      obtain ⟨_, _, _, hA1, _⟩ := hA1
      obtain ⟨_, _, hT1, _, _⟩ := hA1
      obtain ⟨A1, m1, cap1, fs1, rfl, hs1, hl1, hc1⟩ := open_founds (hval 1 _ v1 rfl rfl) hT1
      obtain ⟨n2, rfl, hn2⟩ := open_num Try.underlying3 (hval 2 _ v2 rfl rfl)
      exact law10_AttachOrder n0 n2 hs1 hl1 hc1

theorem attachOrder_holds : Rows.AttachOrderSaid :=
  OpenClaim.holds_of_wide 3 Try.f3 rfl rfl rfl rfl rfl rfl rfl ⟨rfl, rfl, rfl, rfl, rfl⟩ rfl rfl rfl rfl rfl (by kernel_rfl) Try.func3 (by kernel_rfl)
    (of_decide_eq_true (by kernel_rfl)) (by unfold Func.isWrapper; rw [if_neg (of_decide_eq_false (by kernel_rfl))]; exact ⟨rfl, rfl⟩)
    (fun os started H enc _ => attachOrder_lifted os started H enc)
end Go.Proofs.Ytcmojpiokjhmhaa
